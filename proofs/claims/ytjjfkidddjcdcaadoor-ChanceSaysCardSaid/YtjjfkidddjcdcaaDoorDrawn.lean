/- Proved here: the contract of the document's Drawn at this program, of right bits. Conditions: as the theorem says. -/
import Derived.Test.YtjjfkidddjcdcaaDoorSumR
import Derived.Test.YtjjfkidddjcdcaaDoorSumPlain
import Derived.Test.YtjjfkidddjcdcaaDoorRoundLow
import Derived.Test.YtjjfkidddjcdcaaDoorMade2
namespace Go.Proofs.YtjjfkidddjcdcaaDoor
open Go.ChangeShapes Go.WideShapes Go.ChangeAt Go.RowKit

/-- What Drawn hands back. -/
def DrawnEnd (y used : Nat) (sh : Bool) (w : World) (e : Ending) (w' : World) : Prop :=
  Below w.heap.size w w' ∧ (sh = true → e = .returned (.tuple #[.float .f64 0, .int .i64 0, .bool false])) ∧ (sh = false → e = .returned (.tuple #[.float .f64 y, .int .i64 (used : Nat), .bool true]))

/-- What a round's sum leaves. -/
def SumOut (V : Int) (j : Nat) (w : World) (e : Ending) (w' : World) : Prop :=
  Below w.heap.size w w' ∧ ∃ (g a q : Nat), e = .returned (.pointer (some ⟨g, 0, none⟩)) ∧ RatAt w' g (a : Int) q ∧ (a : Int) * 2 ^ (j + 1) = (2 * V + 1) * 2 ^ q ∧ q ≤ j + 1

theorem sum_out (g gp a q j : Nat) (V : Int) (w : World) (h : RatAt w g (a : Int) q) (hp : RatIs w gp ((2 ^ (0 : Nat) : Nat) : Int) (j + 1)) (he : (a : Int) * 2 ^ j = V * 2 ^ q) (hq : q ≤ j) (hj : j ≤ 1074) (hV : 0 ≤ V) (hV2 : V < 2 ^ j) :
    Calls Tryd.prog 93 #[.pointer (some ⟨g, 0, none⟩), .pointer (some ⟨gp, 0, none⟩)] w (SumOut V j w) := by
  obtain ⟨a', j', r', e', l1, l2, _, l4⟩ := hp
  have ha0 : 0 ≤ a' := l4 (by decide)
  have hal := sum_le he hq hV
  have ha3 : a < 2 ^ j := by
    rw [pow_cast] at hV2
    omega
  obtain ⟨B, hB⟩ : ∃ B, B = 1074 := ⟨_, rfl⟩
  obtain ⟨D, hD⟩ : ∃ D, D = 2150 := ⟨_, rfl⟩
  have ha2 : a < 2 ^ B := Nat.lt_of_lt_of_le ha3 (PL.pow_bound _ _ (by omega))
  have ha1 : a'.natAbs < 2 ^ 1 := by
    have : a'.natAbs ≤ 1 := l1
    omega
  have hp1 : ((a : Int) * ((2 ^ j' : Nat) : Int)).natAbs < 2 ^ (B + j') := by
    rw [Int.natAbs_mul, Int.natAbs_natCast, Int.natAbs_natCast, Nat.pow_add]
    exact Nat.mul_lt_mul_of_pos_right ha2 (Nat.two_pow_pos j')
  have hp2 : (a' * ((2 ^ q : Nat) : Int)).natAbs < 2 ^ (1 + q) := by
    rw [Int.natAbs_mul, Int.natAbs_natCast, Nat.pow_add]
    exact Nat.mul_lt_mul_of_pos_right ha1 (Nat.two_pow_pos q)
  have hp3 : ((a : Int) * ((2 ^ j' : Nat) : Int) + a' * ((2 ^ q : Nat) : Int)).natAbs < 2 ^ (D + 1) := by
    have b1 : 2 ^ (B + j') ≤ 2 ^ D := PL.pow_bound _ _ (by omega)
    have b2 : 2 ^ (1 + q) ≤ 2 ^ D := PL.pow_bound _ _ (by omega)
    have b3 := Int.natAbs_add_le ((a : Int) * ((2 ^ j' : Nat) : Int)) (a' * ((2 ^ q : Nat) : Int))
    rw [Nat.pow_succ]
    omega
  have w1 := wc_of_lt ha2
  have w2 := wc_of_lt ha1
  have w3 := wc_of_lt hp1
  have w4 := wc_of_lt hp2
  have w5 := wc_of_lt hp3
  refine (add_r g gp q j' (a : Int) a' w h r' (Int.natCast_nonneg _) ha0 (by rw [Int.natAbs_natCast]; omega) (by omega) (by omega) (by omega) (by omega) (by omega) (by omega)).mono ?_
  rintro e w' ⟨rfl, hb, a'', q'', r'', e'', _, _, _, p0, lw⟩
  have hn : 0 ≤ a'' := p0 (by
    have h1 : 0 ≤ (a : Int) * ((2 ^ j' : Nat) : Int) := Int.mul_nonneg (Int.natCast_nonneg _) (Int.natCast_nonneg _)
    have h2 : 0 ≤ a' * ((2 ^ q : Nat) : Int) := Int.mul_nonneg ha0 (Int.natCast_nonneg _)
    omega)
  obtain ⟨A, rfl⟩ : ∃ A : Nat, a'' = A := ⟨a''.toNat, by omega⟩
  rw [← pow_cast, ← pow_cast] at e''
  obtain ⟨s1, s2⟩ := sum_step he (by simpa using e') e'' lw
  exact ⟨hb, _, A, q'', rfl, r'', s1, s2⟩

theorem drawn_first {f : Nat → Int} {n M used : Nat} {sh : Bool} (hU : UnitS f n M used sh) {k : Nat} (hk : k < 1074) (hkn : k < n) (h0 : ∀ i, i < k → f i = 0) (h1 : f k = 1) (hok : ∀ j, j < n → OkBit (f j)) :
    used = min (k + 53) 1074 ∧ sh = decide (n < used) ∧ (sh = false → (M : Int) = val f n 0 used ∧ 0 < M) := by
  rcases hU with ⟨j, hj, hjn, hj1, hj0, hu, hs, hM⟩ | ⟨hz, _, _, _⟩
  · have e : j = k := by
      rcases Nat.lt_trichotomy j k with h | h | h
      · have := h0 j h; omega
      · exact h
      · have := hj0 k h; omega
    subst e
    refine ⟨hu, hs, fun h => ⟨hM h, ?_⟩⟩
    have hv := hM h
    obtain ⟨K, hK⟩ : ∃ K, used = j + 1 + K := ⟨used - (j + 1), by omega⟩
    rw [hK, val_mant f n j hjn hj1 hj0 K] at hv
    have hp := pow_posI K
    have hb := (mant_bound f n (j + 1) K hok).1
    have hb2 : mant f n (j + 1) K ≠ 0 := by
      have := (val_bound f n (j + 1) hok K).1
      unfold mant
      omega
    omega
  · have := hz k hkn hk
    omega

def SumRel (f : Nat → Int) (n used : Nat) (w : World) (gk : Nat) (v6 v36 : Value) (wr : World) : Prop :=
  ∃ (j g a q : Nat), gk + j = used ∧ v36 = .int .i64 (j : Nat) ∧ v6 = .pointer (some ⟨g, 0, none⟩) ∧ Below w.heap.size w wr ∧ RatAt wr g (a : Int) q ∧ (a : Int) * 2 ^ j = val f n 0 j * 2 ^ q ∧ q ≤ j

set_option maxRecDepth 100000 in
set_option maxHeartbeats 8000000 in
theorem drawn_any (n c : Nat) (A : Option Addr) (f : Nat → Int) (w : World) (hn : n ≤ 2000) (hnc : n ≤ c) (hR : Row w A n f) (hok : ∀ j, j < n → OkBit (f j)) (M used : Nat) (sh : Bool) (hU : UnitS f n M used sh) (y : Nat) (hy : Hid (PL.rungOf Ieee.double M (-(used : Int)) = y)) :
    Calls Tryd.prog 51 #[.slice A n c] w (DrawnEnd y used sh w) := by
  have HR := Lib.hid hR
  have HO := Lib.hid hok
  have HU := Lib.hid hU
  clear hR hok hU
  go_enter Tryd.func51, Tryd.ntmps51
  go_wp2_with fail
  go_loopg [5] 1074 (fun gk v5 wr => ∃ k : Nat, gk + k = 1074 ∧ k ≤ n ∧ v5 = .int .i64 (k : Nat) ∧ (∀ i, i < k → f i = 0) ∧ wr = w)
  case atStart => exact ⟨0, rfl, by omega, rfl, fun i h => by omega, rfl⟩
  case round =>
    obtain ⟨k, hgk, hkn, rfl, hzero, rfl⟩ := hrel
    have HZERO := Lib.hid hzero
    clear hzero
    by_cases hk : k < 1074
    · obtain ⟨gk, rfl⟩ : ∃ g', gk = g' + 1 := ⟨gk - 1, by omega⟩
      by_cases hlt : k < n
      · obtain ⟨b, off, rfl, hb, hc⟩ := HR.out (by omega)
        have hx := hc k hlt
        have hob := HO.out k hlt
        have HC := Lib.hid hc
        clear hc
        rcases hob with hx0 | hx1
        · have HX0 := Lib.hid hx0
          rw [hx0] at hx
          clear hx0
          go_wp2_with fail
          go_roundg gk
          case measure => omega
          case rel => exact ⟨k + 1, by omega, by omega, by go_num, (fun i hi => by by_cases e : i = k; rw [e]; exact HX0.out; exact HZERO.out i (by omega)), rfl⟩
        · obtain ⟨e1, e2, e3⟩ := drawn_first HU.out hk hlt HZERO.out hx1 HO.out
          rw [hx1] at hx
          have hmin : min ((k : Int) + 53) 1074 = (used : Int) := by omega
          have hu1 : 1 ≤ used := by omega
          have hu2 : used ≤ 1074 := by omega
          have E2 := Lib.hid e2
          have HMB := Lib.hid (fun h => (unitS_bound HU.out h HO.out).1)
          have E3 := Lib.hid e3
          have z1 : ((k : Int) == 1074) = false := by simp; omega
          clear HU HZERO hx1 e1 e2 e3
          by_cases hsu : n < used
          · have hsh : Hid (sh = true) := by
              show sh = true
              rw [E2.out]; exact decide_eq_true hsu
            have hsuI : (n : Int) < (used : Int) := by omega
            clear hgk E2 E3
            go_wp2_with fail
            go_ret3
            exact ⟨Below.refl _ _, (fun _ => rfl), (fun h => by rw [hsh.out] at h; cases h)⟩
          · have hsh : sh = false := by rw [E2.out]; exact decide_eq_false hsu
            obtain ⟨hM, hM0⟩ := E3.out hsh
            have hMb := HMB.out hsh
            have hsuI : ¬ (n : Int) < (used : Int) := by omega
            have HM := Lib.hid hM
            subst hsh
            clear hgk E2 E3 hM
            go_wp2_with fail
            refine (whole_none wr).mono ?_
            rintro e w1 ⟨rfl, hb1, hr1⟩
            have HS : Hid (SumRel f n used wr used (.pointer (some ⟨wr.heap.size, 0, none⟩)) (.int .i64 0) w1) := ⟨0, wr.heap.size, 0, 0, by omega, rfl, rfl, hb1, hr1, by simp [val], by omega⟩
            clear hb1 hr1
            go_wp2_with fail
            have HMb := Lib.hid hMb
            have HM0 := Lib.hid hM0
            clear hMb hM0 hmin hx hk hlt hsu HMB
            go_loopg [6, 36] used (fun gk v6 v36 wq => SumRel f n used wr gk v6 v36 wq)
            case atStart => exact HS.out
            case round =>
              clear HS
              obtain ⟨j, g, a, q, hj, rfl, rfl, hbe, hr, heq, hq⟩ := hrel
              have hvb := val_bound f n 0 HO.out j
              have HBE := Lib.hid hbe
              have HRR := Lib.hid hr
              have HEQ := Lib.hid heq
              by_cases hjl : j < used
              · obtain ⟨gj, rfl⟩ : ∃ g', gk = g' + 1 := ⟨gk - 1, by omega⟩
                have cx := (hbe.cell (p := ⟨b, off + j, none⟩) hb).trans (HC.out j (by omega))
                have hob := HO.out j (by omega)
                have hv2 : val f n 0 (j + 1) = 2 * val f n 0 j + f j := by
                  show 2 * val f n 0 j + bitAt f n (0 + j) = _
                  unfold bitAt
                  rw [Nat.zero_add, if_pos (by omega)]
                have HV2 := Lib.hid hv2
                clear hv2 hbe hr heq
                rcases hob with hx0 | hx1
                · rw [hx0] at HV2 cx
                  have HST := Lib.hid (sum_zero HEQ.out)
                  clear hvb hx0
                  go_wp2_with fail
                  go_roundg gj
                  case measure => omega
                  case rel => exact ⟨j + 1, g, a, q, by omega, by go_num, rfl, HBE.out, HRR.out, by rw [HV2.out]; exact HST.out, by omega⟩
                · rw [hx1] at HV2 cx
                  have e1 : (-(j : Int) - 1).toNat = 0 := by omega
                  have e2 : (-(-(j : Int) - 1)).toNat = j + 1 := by omega
                  have CP := Lib.hid (pow2_z (-(j : Int) - 1) wr (by omega) (by omega))
                  rw [e1, e2] at CP
                  have CS := Lib.hid (fun gp w2 (hb2 : Below wr.heap.size wr w2) hr2 => sum_out g gp a q j (val f n 0 j) w2 (HRR.out.below hb2) hr2 HEQ.out hq (by omega) hvb.1 hvb.2)
                  clear hvb hx1 e1 e2 HEQ
                  go_wp2_with fail
                  refine CP.out.mono ?_
                  rintro e w2 ⟨hb2, gp, rfl, hgp, hr2⟩
                  have CS2 := Lib.hid (CS.out gp w2 hb2 hr2)
                  have HB2 := Lib.hid (HBE.out.trans (hb2.mono HBE.out.size))
                  clear hb2 hr2 CS CP HBE HRR hgp
                  go_wp2_with fail
                  refine CS2.out.mono ?_
                  rintro e w3 ⟨hb3, g3, a3, q3, rfl, hr3, s1, s2⟩
                  have HB3 := Lib.hid (HB2.out.trans (hb3.mono HB2.out.size))
                  have HR3 := Lib.hid hr3
                  have HS1 := Lib.hid s1
                  clear hb3 hr3 s1 CS2 HB2
                  go_wp2_with fail
                  go_roundg gj
                  case measure => omega
                  case rel => exact ⟨j + 1, g3, a3, q3, by omega, by go_num, rfl, HB3.out, HR3.out, by rw [HV2.out]; exact HS1.out, s2⟩
              · obtain rfl : j = used := by omega
                have heM : (a : Int) * 2 ^ j = (M : Int) * 2 ^ q := by rw [HM.out]; exact heq
                obtain ⟨t1, t2⟩ := sum_end heM HM0.out HMb.out hu1 hu2
                obtain ⟨x1, x2, _⟩ := exact_flt M j HM0.out HMb.out hu1 hu2
                rw [hy.out] at t1 t2 x1 x2
                have haM := sum_le heM hq (by omega)
                have ha0 : 0 < a := by
                  rcases Nat.eq_zero_or_pos a with h | h
                  · subst h
                    have := Int.mul_pos (show (0 : Int) < M by have := HM0.out; omega) (pow_posI q)
                    rw [← heM] at this
                    simp at this
                  · exact h
                have ha53 : a < 2 ^ 53 := by have := HMb.out; omega
                have hwa := wc_of_lt ha53
                have hwa2 : wc a ≤ 20000 := by omega
                have hq2 : q ≤ 20000 := by omega
                have h53 : 53 ≤ 20000 := by omega
                have hal2 := lt_pow_of (Nat.le_refl _) ha53 h53
                have CR := Lib.hid (round_low g q a y wr hr ha0 hal2 hwa2 hq2 t1 x2 x1 t2)
                clear t1 t2 x1 x2 haM ha0 ha53 hwa hwa2 hq2 h53 hal2 heM hbe hr heq hvb HEQ HRR hjl
                go_wp2_with fail
                refine CR.out.mono ?_
                rintro e w2 ⟨hb2, rfl⟩
                have HB2 := Lib.hid (HBE.out.trans (hb2.mono HBE.out.size))
                clear hb2 CR HBE
                go_wp2_with fail
                go_ret3
                exact ⟨HB2.out, (fun h => by cases h), (fun _ => rfl)⟩
      · have hsh : Hid (sh = true) := by
          show sh = true
          rcases HU.out with ⟨j, hj, hjn, hj1, _, _, _, _⟩ | ⟨_, _, _, hs⟩
          · have := HZERO.out j (by omega); omega
          · rw [hs]; exact decide_eq_true (by omega)
        have hge : (n : Int) ≤ k := by omega
        go_wp2_with fail
        go_ret3
        exact ⟨Below.refl _ _, (fun _ => rfl), (fun h => by rw [hsh.out] at h; cases h)⟩
    · obtain rfl : k = 1074 := by omega
      have hend : Hid (used = 1074 ∧ sh = false ∧ y = 0) := by
        show _ ∧ _
        rcases HU.out with ⟨j, hj, hjn, hj1, _, _, _, _⟩ | ⟨_, hu, hM, hs⟩
        · have := HZERO.out j (by omega); omega
        · refine ⟨hu, by rw [hs]; exact decide_eq_false (by omega), ?_⟩
          rw [← hy.out, hM, PL.rung_zero]
      go_wp2_with fail
      go_ret3
      obtain ⟨e1, e2, e3⟩ := hend.out
      subst e1 e2 e3
      exact ⟨Below.refl _ _, (fun h => by cases h), (fun _ => rfl)⟩
end Go.Proofs.YtjjfkidddjcdcaaDoor
