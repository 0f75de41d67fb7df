/- Proved here: the contract of package enclosurebig's near at this program, at 53 bits from the power -1074 on, over a power of two. Conditions: as each theorem says. -/
import Derived.Test.YtjjfkidddjcdcaaDoorNearPlain
import Derived.Test.YtjjfkidddjcdcaaDoorRatSet
import Derived.Test.YtjjfkidddjcdcaaDoorIntAdd
import Derived.Deep.CutRange
namespace Go.Proofs.YtjjfkidddjcdcaaDoor
open Go.ChangeShapes Go.WideShapes Go.ChangeAt Go.RowKit

theorem wc_of_lt {v n : Nat} (h : v < 2 ^ n) : wc v ≤ n / 32 + 1 := by
  refine wc_le (Nat.lt_of_lt_of_le h ?_)
  unfold B
  exact PL.pow_bound _ _ (by omega)

theorem wc_shift {v A : Nat} (s S : Nat) (h : v < 2 ^ A) (hs : s ≤ S) : wc (v * 2 ^ s) ≤ (A + S) / 32 + 1 := by
  refine wc_of_lt ?_
  rw [Nat.pow_add]
  exact Nat.lt_of_lt_of_le (Nat.mul_lt_mul_of_pos_right h (Nat.two_pow_pos _)) (Nat.mul_le_mul_left _ (PL.pow_bound _ _ hs))
theorem tz_top {Q t : Nat} (h : Twos Q t) (hQ : Q = 9007199254740992) : t = 53 := twos_pow (k := 53) (by rw [hQ] at h; exact h)
theorem tz_small {Q t : Nat} (h : Twos Q t) (h1 : 9007199254740992 < Q) (h2 : Q < 18014398509481984) : t < 53 := by
  rcases Nat.lt_or_ge t 53 with h3 | h3
  · exact h3
  · exfalso
    obtain ⟨o, e, _⟩ := h
    obtain ⟨d, rfl⟩ : ∃ d, t = 53 + d := ⟨t - 53, by omega⟩
    rw [Nat.pow_add, Nat.mul_assoc] at e
    generalize 2 ^ d * o = x at e
    have : (2 : Nat) ^ 53 = 9007199254740992 := rfl
    rw [this] at e
    omega

theorem lsh_n (g o gx ox n v : Nat) (z0 : Int) (w : World) (hz : At w g o z0) (hx : At w gx ox (v : Int)) (hs : wc v ≤ 50000) (hn : n ≤ 1000000) :
    Calls Tryd.prog 78 #[.pointer (some ⟨g, o, none⟩), .pointer (some ⟨gx, ox, none⟩), .int .u64 n] w fun e w' => e = .returned (.pointer (some ⟨g, o, none⟩)) ∧ Puts w w' g o ((v * 2 ^ n : Nat) : Int) := by
  have h := lsh_z g o gx ox n z0 (v : Int) w hz hx hs hn
  rw [show (v : Int) * 2 ^ n = ((v * 2 ^ n : Nat) : Int) by rw [pow_cast, ← Int.natCast_mul]] at h
  exact h

theorem quorem_new (gx ox gy oy u v : Nat) (w : World) (hx : At w gx ox (u : Int)) (hy : At w gy oy (v : Int)) (hs : wc u ≤ 50000) (hF : Fair v) :
    Calls Tryd.prog 86 #[.pointer (some ⟨w.heap.size, 0, none⟩), .pointer (some ⟨gx, ox, none⟩), .pointer (some ⟨gy, oy, none⟩), .pointer (some ⟨w.heap.size + 1, 0, none⟩)] ((w.alloc (Obj.cells #[.bool false, .slice none 0 0] 101)).alloc (Obj.cells #[.bool false, .slice none 0 0] 101)) fun e w' =>
      e = .returned (.tuple #[.pointer (some ⟨w.heap.size, 0, none⟩), .pointer (some ⟨w.heap.size + 1, 0, none⟩)]) ∧ Below w.heap.size w w' ∧ At w' w.heap.size 0 ((u / v : Nat) : Int) ∧ At w' (w.heap.size + 1) 0 ((u % v : Nat) : Int) := by
  have z1 := At.zero w
  have hb1 := below_new w (Obj.cells #[.bool false, .slice none 0 0] 101)
  have hs1 : (w.alloc (Obj.cells #[.bool false, .slice none 0 0] 101)).heap.size = w.heap.size + 1 := by simp
  generalize w.alloc (Obj.cells #[.bool false, .slice none 0 0] 101) = w1 at *
  have z2 := At.zero w1
  have hb2 := below_new w1 (Obj.cells #[.bool false, .slice none 0 0] 101)
  have z1' := z1.below hb2
  rw [hs1] at z2
  have hb12 : Below w.heap.size w (w1.alloc (Obj.cells #[.bool false, .slice none 0 0] 101)) := hb1.trans (hb2.mono hb1.size)
  generalize w1.alloc (Obj.cells #[.bool false, .slice none 0 0] 101) = w2 at *
  refine (quorem_z w.heap.size 0 (w.heap.size + 1) 0 gx ox gy oy 0 0 (u : Int) (v : Int) w2 z1' z2 (hx.below hb12) (hy.below hb12) (by omega) (by omega) hs hF (by omega)).mono ?_
  rintro e w' ⟨rfl, wn, wm, hbn, hP, hP2⟩
  have hsz := hb12.size
  have hz2 : w.heap.size + 1 < w2.heap.size := z2.lt
  have hbm : Below w.heap.size w wm := hP.below (hb12.trans (hbn.mono hsz)) (Nat.le_refl _) (Nat.le_trans hsz hbn.size)
  refine ⟨rfl, hP2.below hbm (by omega) hbm.size, ?_, hP2.at_⟩
  exact At.put hP.at_ ((z2.below hbn).put (z1'.below hbn) hP (by omega)) hP2 (by omega)

theorem round_up (n d : Nat) : PL.rneG n d = n / d + (if 0 < cmpN (n % d * 2 ^ 1) d ∨ (cmpN (n % d * 2 ^ 1) d = 0 ∧ n / d % 2 = 1) then 1 else 0) := by
  unfold PL.rneG cmpN
  rw [Nat.pow_one, Nat.mul_comm (n % d) 2]
  congr 1
  have : (0 < (if 2 * (n % d) < d then (-1 : Int) else if d < 2 * (n % d) then 1 else 0)) ↔ d < 2 * (n % d) := by
    split
    · omega
    · split <;> omega
  have h2 : ((if 2 * (n % d) < d then (-1 : Int) else if d < 2 * (n % d) then 1 else 0) = 0) ↔ d = 2 * (n % d) := by
    split
    · omega
    · split <;> omega
  simp only [this, h2]

/-- A round of the search begins: the power p, all that was there as it was. -/
def NearRel (a k : Nat) (w : World) (gk : Nat) (v11 : Value) (wr : World) : Prop :=
  ∃ p : Int, v11 = .int .i64 p ∧ p + gk = PL.LL a k ∧ (gk = 0 ∨ gk = 1 ∧ -1074 < PL.LL a k) ∧ Below w.heap.size w wr

def NearOut (a k : Nat) (w : World) (e : Ending) (w' : World) : Prop :=
  Below w.heap.size w w' ∧ ∃ (gq q : Nat) (p : Int) (ex : Bool), e = .returned (.tuple #[.pointer (some ⟨gq, 0, none⟩), .int .i64 p, .bool ex]) ∧ At w' gq 0 (q : Int) ∧ q < 9007199254740992 ∧ PL.rungOf Ieee.double q p = PL.rungOf Ieee.double a (-(k : Int)) ∧ -1074 ≤ p ∧ p ≤ 30000

set_option maxRecDepth 100000 in
set_option maxHeartbeats 2000000 in
theorem nearby_any (ga oa gb ob a k : Nat) (w : World) (ha : At w ga oa (a : Int)) (hb : At w gb ob ((2 ^ k : Nat) : Int)) (h0 : 0 < a) (hal : a < 2 ^ 20000) (hk : k ≤ 20000) :
    Calls Tryd.prog 113 #[.pointer (some ⟨ga, oa, none⟩), .pointer (some ⟨gb, ob, none⟩), .int .i64 53, .int .i64 (-1074)] w (NearOut a k w) := by
  have HA := Lib.hid ha
  have HB := Lib.hid hb
  have hwa := wc_of_lt hal
  have hlog : a.log2 < 20000 := (PL.log2_lt_iff a _ (by omega)).2 hal
  have hLL := PL.LL_eq a k
  have hL1 : -1074 ≤ PL.LL a k := by omega
  have hL2 : PL.LL a k ≤ 20000 := by omega
  have C1 := Lib.hid (bitlen_z ga oa (a : Int) w ha (by show wc a ≤ 50000; omega))
  have C2 := Lib.hid (bitlen_z gb ob ((2 ^ k : Nat) : Int) w hb (by show wc (2 ^ k) ≤ 50000; rw [wc_pow]; omega))
  rw [show ((2 ^ k : Nat) : Int).natAbs = 2 ^ k from rfl, bl_pow] at C2
  rw [show (a : Int).natAbs = a from rfl] at C1
  have hbl : bl a ≤ 20000 := bl_le hal
  have HS := Lib.hid (PL.near_start a k h0)
  obtain ⟨L, hLe⟩ : ∃ L, PL.LL a k = L := ⟨_, rfl⟩
  have HLe := Lib.hid hLe
  have HAL := Lib.hid hal
  rw [hLe] at hL1 hL2 HS
  clear ha hb hLL hal hlog hLe
  obtain ⟨y, hy⟩ : ∃ y, bl a = y := ⟨_, rfl⟩
  rw [hy] at C1 hbl HS
  clear hy
  go_enter Tryd.func113, Tryd.ntmps113
  go_wp2_with fail
  refine C1.out.mono ?_
  rintro e wa ⟨rfl, rfl⟩
  go_wp2_with fail
  refine C2.out.mono ?_
  rintro e wa ⟨rfl, rfl⟩
  obtain ⟨p0, hp0⟩ : ∃ p0 : Int, max ((y : Int) - ((k : Int) + 1) - 53) (-1074) = p0 := ⟨_, rfl⟩
  rw [hp0] at HS
  go_upto_if 27 with fail
  go_cut [11] from 25 to 28 (fun s11 wx => s11 = .int .i64 p0 ∧ wa = wx)
  case first =>
    go_wp2_with fail
    all_goals (go_meet; exact ⟨int_cast_eq (by omega), rfl⟩)
  case rest =>
  obtain ⟨rfl, rfl⟩ := hcut
  have hst : Hid (∃ gk, NearRel a k wa gk (.int .i64 p0) wa) := by
    rcases HS.out with h | ⟨h, h2⟩
    · exact ⟨0, p0, rfl, by rw [HLe.out]; omega, .inl rfl, Below.refl _ _⟩
    · exact ⟨1, p0, rfl, by rw [HLe.out]; omega, .inr ⟨rfl, by rw [HLe.out]; exact h2⟩, Below.refl _ _⟩
  obtain ⟨g0, hst⟩ := hst.out
  have HST := Lib.hid hst
  clear hst hp0 C1 C2
  go_wp2_with fail
  go_loopg [11] g0 (fun gk v11 wr => NearRel a k wa gk v11 wr)
  case atStart => exact HST.out
  case round =>
    clear HST HS
    obtain ⟨p, rfl, hpg, hgk, hBe⟩ := hrel
    rw [HLe.out] at hpg hgk
    have HBe := Lib.hid hBe
    have hp1 : -1074 ≤ p := by omega
    have hp2 : p ≤ 20000 := by omega
    clear hBe
    go_wp2_with fail
    refine (set_new ga oa (a : Int) wr (HA.out.below HBe.out) (by show wc a ≤ 50000; omega)).mono ?_
    rintro e w1 ⟨rfl, hb1, hn1⟩
    generalize hgn : wr.heap.size = gn at *
    have hbe1 : Below wa.heap.size wa w1 := HBe.out.trans (hb1.mono (by rw [← hgn]; exact HBe.out.size))
    go_wp2_with fail
    refine (set_new gb ob ((2 ^ k : Nat) : Int) w1 (HB.out.below hbe1) (by show wc (2 ^ k) ≤ 50000; rw [wc_pow]; omega)).mono ?_
    rintro e w2 ⟨rfl, hb2, hd2⟩
    have hn2 := hn1.below hb2
    have hng : gn < w1.heap.size := hn1.lt
    generalize hgd : w1.heap.size = gd at *
    have hwn : wa.heap.size ≤ gn := by rw [← hgn]; exact HBe.out.size
    have hbe2 : Below wa.heap.size wa w2 := hbe1.trans (hb2.mono (by omega))
    clear hb1 hb2 hn1 hbe1 HBe hgn hgd
    have HN2 := Lib.hid hn2
    have HD2 := Lib.hid hd2
    have HB2 := Lib.hid hbe2
    clear hn2 hd2 hbe2
    obtain ⟨n, hn⟩ : ∃ n, a * 2 ^ (-p).toNat = n := ⟨_, rfl⟩
    obtain ⟨d, hd⟩ : ∃ d, 2 ^ k * 2 ^ p.toNat = d := ⟨_, rfl⟩
    have HNn := Lib.hid hn
    have HDd := Lib.hid hd
    clear hn hd
    go_upto_if 36 with fail
    go_cut [] from 29 to 105 (fun wx => Hid (At wx gn 0 (n : Int) ∧ At wx gd 0 (d : Int) ∧ Below wa.heap.size wa wx))
    case first => as_aux_lemma =>
      by_cases h0p : 0 ≤ p
      · obtain ⟨t, ht⟩ : ∃ t : Nat, p = t := ⟨p.toNat, by omega⟩
        subst ht
        have C := Lib.hid (lsh_n gd 0 gd 0 t (2 ^ k) _ w2 HD2.out HD2.out (by rw [wc_pow]; omega) (by omega))
        rw [show 2 ^ k * 2 ^ t = d from HDd.out] at C
        go_wp2_with fail
        refine C.out.mono ?_
        rintro e w3 ⟨rfl, hP⟩
        go_wp2_with fail
        go_meet
        refine ⟨?_, hP.at_, hP.below HB2.out (by omega) HB2.out.size⟩
        have : n = a := by rw [← HNn.out, show (-(t : Int)).toNat = 0 by omega, Nat.pow_zero, Nat.mul_one]
        rw [this]
        exact HN2.out.put HD2.out hP (by omega)
      · obtain ⟨t, ht⟩ : ∃ t : Nat, -p = t := ⟨(-p).toNat, by omega⟩
        have C := Lib.hid (lsh_n gn 0 gn 0 t a _ w2 HN2.out HN2.out (by omega) (by omega))
        rw [show a * 2 ^ t = n from by rw [← HNn.out, show (-p).toNat = t by omega]] at C
        go_wp2_with fail
        refine C.out.mono ?_
        rintro e w3 ⟨rfl, hP⟩
        go_wp2_with fail
        go_meet
        refine ⟨hP.at_, ?_, hP.below HB2.out (by omega) HB2.out.size⟩
        have : d = 2 ^ k := by rw [← HDd.out, show p.toNat = 0 by omega, Nat.pow_zero, Nat.mul_one]
        rw [this]
        exact HD2.out.put HN2.out hP (by omega)
    case rest => as_aux_lemma =>
      clear HN2 HD2 HB2
      obtain ⟨w3, rfl⟩ : ∃ w3, w3 = wc := ⟨_, rfl⟩
      obtain ⟨hn3, hd3, hb3⟩ := hcut.out
      clear hcut
      have hnb : wc n ≤ 1000 := by
        rw [← HNn.out]
        exact Nat.le_trans (wc_shift (-p).toNat 1074 HAL.out (by omega)) (by omega)
      have hdp : d = 2 ^ (k + p.toNat) := by rw [← HDd.out, Nat.pow_add]
      have hdb : wc d ≤ 2000 := by rw [hdp, wc_pow]; omega
      have hFd : Fair d := ⟨by rw [hdp]; exact Nat.two_pow_pos _, by omega, .inr ⟨_, hdp⟩⟩
      have hrb : wc (n % d) ≤ 2000 := Nat.le_trans (wc_mono (Nat.mod_le n d)) (by omega)
      have hqb : wc (n / d) ≤ 2000 := Nat.le_trans (wc_mono (Nat.div_le_self n d)) (by omega)
      have hrb2 : wc (n % d * 2 ^ 1) ≤ 4000 := by
        have h1 := lt_wc (n % d)
        have h2 : n % d * 2 ^ 1 < B (wc (n % d) + 1) := by rw [B_succ]; omega
        have := wc_le h2
        omega
      have CQ := Lib.hid (quorem_new gn 0 gd 0 n d w3 hn3 hd3 (by omega) hFd)
      have HN3 := Lib.hid hn3
      have HD3 := Lib.hid hd3
      have HB3 := Lib.hid hb3
      have HUp := Lib.hid (round_up n d)
      clear hn3 hd3 hb3 hdp hFd
      obtain ⟨q, hq⟩ : ∃ q, n / d = q := ⟨_, rfl⟩
      obtain ⟨r, hr⟩ : ∃ r, n % d = r := ⟨_, rfl⟩
      rw [hq] at CQ HUp hqb
      rw [hr] at CQ HUp hrb hrb2
      clear hq hr
      go_wp2_with fail
      refine CQ.out.mono ?_
      rintro e w4 ⟨rfl, hb4, hq4, hr4⟩
      have hgz := hq4.lt
      have hdz := HD3.out.lt
      generalize hgz2 : w3.heap.size = gz at *
      have hbe4 : Below wa.heap.size wa w4 := HB3.out.trans (hb4.mono (by rw [← hgz2]; exact HB3.out.size))
      have HD4 := Lib.hid (HD3.out.below (by rw [hgz2]; exact hb4))
      clear CQ HN3 HD3 hb4
      have C5 := Lib.hid (sign_z (gz + 1) 0 (r : Int) w4 hr4 (by show wc r ≤ 50000; omega))
      have C6 := Lib.hid (lsh_n w4.heap.size 0 (gz + 1) 0 1 r 0 _ (At.zero w4) (hr4.below (below_new w4 _)) (by omega) (by omega))
      have HQ4 := Lib.hid hq4
      have HB4 := Lib.hid hbe4
      clear hq4 hr4 hbe4
      obtain ⟨sg, hsg⟩ : ∃ sg, (r : Int).sign = sg := ⟨_, rfl⟩
      rw [hsg] at C5
      clear hsg
      go_wp2_with fail
      refine C5.out.mono ?_
      rintro e wb ⟨rfl, rfl⟩
      go_wp2_with fail
      refine C6.out.mono ?_
      rintro e w5 ⟨rfl, hP⟩
      obtain ⟨hb5, hl5⟩ := new_put hP
      clear hP C6 C5
      have C7 := Lib.hid (cmp_z wb.heap.size 0 gd 0 _ _ w5 hl5 (HD4.out.below hb5) (by omega) (by omega) (Nat.le_trans hrb2 (by omega)) (Nat.le_trans hdb (by omega)))
      rw [show ((r * 2 ^ 1 : Nat) : Int).natAbs = r * 2 ^ 1 from rfl, show (d : Int).natAbs = d from rfl] at C7
      obtain ⟨cm, hcm⟩ : ∃ cm, cmpN (r * 2 ^ 1) d = cm := ⟨_, rfl⟩
      rw [hcm] at C7 HUp
      clear hcm hl5
      have hb05 : Below wa.heap.size wa w5 := HB4.out.trans (hb5.mono HB4.out.size)
      have hq5 := HQ4.out.below hb5
      go_wp2_with fail
      refine C7.out.mono ?_
      rintro e w6 ⟨hb6, rfl⟩
      have HQ6 := Lib.hid (hq5.below hb6)
      have HB6 := Lib.hid (hb05.trans (hb6.mono hb05.size))
      clear C7 hb5 hb6 hb05 hq5 HD4 HQ4 HB4
      obtain ⟨up, hup⟩ : ∃ up : Bool, decide (0 < cm ∨ (cm = 0 ∧ q % 2 = 1)) = up := ⟨_, rfl⟩
      have C8 := Lib.hid (bit_z gz 0 (q : Int) w6 HQ6.out (by omega) (by show wc q ≤ 50000; omega))
      rw [show (q : Int).natAbs = q from rfl] at C8
      have HCU := Lib.hid hup
      clear hup
      go_upto_region 11 with fail
      go_cut [74] from 29 to 105 (fun s74 wx => s74 = .bool up ∧ w6 = wx)
      case first => as_aux_lemma =>
        rcases Int.lt_trichotomy cm 0 with h | h | h
        · have hu : up = false := by rw [← HCU.out, decide_eq_false (by omega)]
          subst hu
          have hz : (cm == 0) = false := by simp; omega
          clear HCU HUp
          go_wp2_with fail
          go_meet
          exact ⟨rfl, rfl⟩
        · subst h
          rcases Nat.mod_two_eq_zero_or_one q with h | h
          · have hu : up = false := by rw [← HCU.out, decide_eq_false (by omega)]
            subst hu
            rw [h] at C8
            clear HCU HUp h
            go_wp2_with fail
            refine C8.out.mono ?_
            rintro e wx ⟨rfl, rfl⟩
            go_wp2_with fail
            go_meet
            exact ⟨rfl, rfl⟩
          · have hu : up = true := by rw [← HCU.out, decide_eq_true (by omega)]
            subst hu
            rw [h] at C8
            clear HCU HUp h
            go_wp2_with fail
            refine C8.out.mono ?_
            rintro e wx ⟨rfl, rfl⟩
            go_wp2_with fail
            go_meet
            exact ⟨rfl, rfl⟩
        · have hu : up = true := by rw [← HCU.out, decide_eq_true (by omega)]
          subst hu
          clear HCU HUp
          go_wp2_with fail
          go_meet
          exact ⟨rfl, rfl⟩
      case rest => as_aux_lemma =>
        obtain ⟨rfl, rfl⟩ := hcut
        go_upto_if 74 with fail
        obtain ⟨Q, hQ⟩ : ∃ Q, PL.rneG n d = Q := ⟨_, rfl⟩
        have hQq : Q = q + up.toNat := by
          rw [← hQ, HUp.out, ← HCU.out]
          by_cases h : 0 < cm ∨ (cm = 0 ∧ q % 2 = 1)
          · rw [if_pos h, decide_eq_true h]; rfl
          · rw [if_neg h, decide_eq_false h]; rfl
        have HQQ := Lib.hid hQq
        have HQd := Lib.hid hQ
        clear hQ hQq C8
        go_cut [] from 29 to 105 (fun wx => Hid (At wx gz 0 (Q : Int) ∧ Below wa.heap.size wa wx))
        case first => as_aux_lemma =>
          cases up
          · have e : Q = q := HQQ.out
            subst e
            clear HQQ HCU HUp HQd
            go_wp2_with fail
            go_meet
            exact ⟨HQ6.out, HB6.out⟩
          · have e : ((Q : Nat) : Int) = (q : Int) + 1 := by rw [HQQ.out]; rfl
            have HE := Lib.hid e
            clear HQQ HCU HUp HQd e
            go_wp2_with fail
            refine (newint_z 1 w6 (by omega) (by omega)).mono ?_
            rintro e w7 ⟨hb7, rfl, h7⟩
            have hq7 := HQ6.out.below hb7
            have hb07 : Below wa.heap.size wa w7 := HB6.out.trans (hb7.mono HB6.out.size)
            go_wp2_with fail
            refine (add_z gz 0 gz 0 w6.heap.size 0 (q : Int) (q : Int) 1 w7 hq7 hq7 h7 (by omega) (by omega) (by show wc q ≤ 50000; omega) (by decide)).mono ?_
            rintro e w8 ⟨rfl, hP⟩
            go_wp2_with fail
            go_meet
            rw [← HE.out] at hP
            exact ⟨hP.at_, hP.below hb07 (by omega) hb07.size⟩
        case rest => as_aux_lemma =>
          obtain ⟨wq, rfl⟩ : ∃ wq, wq = wc := ⟨_, rfl⟩
          obtain ⟨hQ, hB⟩ := hcut.out
          clear hcut HQ6 HB6 HCU HUp HQQ
          have HQ := Lib.hid hQ
          have HB9 := Lib.hid hB
          clear hQ hB
          have hNR : PL.NR a k p = Q := by rw [← HQd.out, ← HNn.out, ← HDd.out]; rfl
          have hQs : Q ≤ 18014398509481984 ∧ (Q < 9007199254740992 → PL.rungOf Ieee.double Q p = PL.rungOf Ieee.double a (-(k : Int))) ∧ (Q = 9007199254740992 → PL.rungOf Ieee.double 4503599627370496 (p + 1) = PL.rungOf Ieee.double a (-(k : Int))) ∧ (9007199254740992 < Q → gk = 1) := by
            rcases hgk with h | ⟨h, h2⟩
            · have hp : p = L := by omega
              obtain ⟨n1, n2⟩ := PL.near_last a k h0
              rw [HLe.out, ← hp, hNR] at n1
              rw [HLe.out, ← hp, hNR] at n2
              refine ⟨by omega, fun _ => n1, fun e => ?_, fun e => by omega⟩
              rw [PL.near_carry, ← e]; exact n1
            · have hp : p = L - 1 := by omega
              obtain ⟨n1, n2, n3⟩ := PL.near_below a k h0 (by rw [HLe.out]; exact h2)
              rw [HLe.out, ← hp, hNR] at n1 n2 n3
              refine ⟨n2, fun e => by omega, fun e => ?_, fun _ => h⟩
              rw [show p + 1 = L by omega]; exact n3 e
          obtain ⟨hQ54, HR1, HR2, HR3⟩ := hQs
          have HRA := Lib.hid HR1
          have HRB := Lib.hid HR2
          have HRC := Lib.hid HR3
          have hQ54' : Q < 2 ^ 55 := by omega
          have hwQ := wc_of_lt hQ54'
          clear HR1 HR2 HR3 hNR HQd
          have C9 := Lib.hid (bitlen_z gz 0 (Q : Int) wq HQ.out (by show wc Q ≤ 50000; omega))
          rw [show (Q : Int).natAbs = Q from rfl] at C9
          rcases Nat.lt_trichotomy Q 9007199254740992 with hc | hc | hc
          · have hbl : bl Q ≤ 53 := bl_le (by omega)
            generalize bl Q = z at *
            clear hQ54' hQ54
            go_wp2_with fail
            refine C9.out.mono ?_
            rintro e wx ⟨rfl, rfl⟩
            go_wp2_with fail
            go_ret3
            exact ⟨HB9.out, gz, Q, p, _, rfl, HQ.out, hc, HRA.out hc, by omega, by omega⟩
          · have hbl : bl Q = 54 := bl_eq (n := 53) (by omega) (by omega)
            have C10 := Lib.hid (tzb_z gz 0 (Q : Int) wq HQ.out (by omega) (by show wc Q ≤ 20000; omega))
            have C11 := Lib.hid (rsh_z gz 0 gz 0 1 (Q : Int) (Q : Int) wq HQ.out HQ.out (by omega) (by show wc Q ≤ 50000; omega) (by omega))
            rw [show (Q : Int).natAbs / 2 ^ 1 = 4503599627370496 from by show Q / 2 ^ 1 = _; omega] at C11
            rw [show (Q : Int).natAbs = Q from rfl] at C10
            rw [hbl] at C9
            have HC := Lib.hid hc
            clear hQ54' hQ54 hbl hc
            go_wp2_with fail
            refine C9.out.mono ?_
            rintro e wx ⟨rfl, rfl⟩
            go_wp2_with fail
            refine C9.out.mono ?_
            rintro e wy ⟨rfl, rfl⟩
            go_wp2_with fail
            refine C10.out.mono ?_
            rintro e wz ⟨rfl, t, rfl, ht⟩
            obtain rfl := tz_top ht HC.out
            clear ht
            go_wp2_with fail
            refine C11.out.mono ?_
            rintro e w9 ⟨rfl, hP⟩
            go_wp2_with fail
            go_ret3
            exact ⟨hP.below HB9.out (by omega) HB9.out.size, gz, 4503599627370496, p + 1, _, rfl, hP.at_, by omega, HRB.out HC.out, by omega, by omega⟩
          · have hgk1 := HRC.out hc
            have hfin : Hid (NearRel a k wa 0 (.int .i64 (p + 1)) wq) := ⟨p + 1, rfl, by rw [HLe.out]; omega, .inl rfl, HB9.out⟩
            rcases Nat.lt_or_ge Q 18014398509481984 with hc2 | hc2
            · have hbl : bl Q = 54 := bl_eq (n := 53) (by omega) (by omega)
              have C10 := Lib.hid (tzb_z gz 0 (Q : Int) wq HQ.out (by omega) (by show wc Q ≤ 20000; omega))
              rw [show (Q : Int).natAbs = Q from rfl] at C10
              rw [hbl] at C9
              have HT := Lib.hid (fun t ht => @tz_small Q t ht hc hc2)
              clear hQ54' hQ54 hbl hc hc2
              go_wp2_with fail
              refine C9.out.mono ?_
              rintro e wx ⟨rfl, rfl⟩
              go_wp2_with fail
              refine C9.out.mono ?_
              rintro e wy ⟨rfl, rfl⟩
              go_wp2_with fail
              refine C10.out.mono ?_
              rintro e wz ⟨rfl, t, rfl, ht⟩
              have ht2 := HT.out t ht
              clear ht
              go_wp2_with fail
              go_roundg 0
              case measure => omega
              case rel => exact hfin.out
            · have hbl : bl Q = 55 := bl_eq (n := 54) (by omega) (by omega)
              rw [hbl] at C9
              clear hQ54' hQ54 hbl hc hc2
              go_wp2_with fail
              refine C9.out.mono ?_
              rintro e wx ⟨rfl, rfl⟩
              go_wp2_with fail
              refine C9.out.mono ?_
              rintro e wy ⟨rfl, rfl⟩
              go_wp2_with fail
              go_roundg 0
              case measure => omega
              case rel => exact hfin.out
end Go.Proofs.YtjjfkidddjcdcaaDoor
