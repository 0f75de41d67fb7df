/- Proved here: the contract of the document's Toss at this program, of 0 < p < q. Conditions: as the theorem says.
   Proved here: contracts of the document's Toss and Fades at this program. Conditions: as each theorem says. -/
import Derived.Test.YtjjfkidddjcdcaaDoorFlip
import Derived.Test.YtjjfkidddjcdcaaDoorRatOf
import Derived.Test.YtjjfkidddjcdcaaDoorFade2
namespace Go.Proofs.YtjjfkidddjcdcaaDoor
open Go.ChangeShapes Go.WideShapes Go.ChangeAt Go.RowKit

theorem toss_div (p q j r : Nat) (hq : 0 < q) (hr : p * 2 ^ j % q = r) :
    p * 2 ^ (j + 1) / q % 2 = (if q ≤ 2 * r then 1 else 0) ∧ p * 2 ^ (j + 1) % q = (if q ≤ 2 * r then 2 * r - q else 2 * r) := by
  have hlt : r < q := hr ▸ Nat.mod_lt _ hq
  have h := Nat.div_add_mod (p * 2 ^ j) q
  rw [hr] at h
  have e : p * 2 ^ (j + 1) = 2 * r + q * (2 * (p * 2 ^ j / q)) := by
    rw [Nat.pow_succ, ← Nat.mul_assoc]
    generalize p * 2 ^ j / q = d at *
    generalize p * 2 ^ j = x at *
    rw [← h, Nat.mul_left_comm]
    omega
  rw [e, Nat.add_mul_div_left _ _ hq, Nat.add_mul_mod_self_left (2 * r) q]
  generalize p * 2 ^ j / q = d at *
  by_cases hd : q ≤ 2 * r
  · rw [if_pos hd, if_pos hd]
    have h1 : 2 * r / q = 1 := by
      refine Nat.div_eq_of_lt_le ?_ ?_
      · omega
      · omega
    have h2 : 2 * r % q = 2 * r - q := by
      rw [Nat.mod_eq_sub_mod hd, Nat.mod_eq_of_lt (by omega)]
    exact ⟨by omega, h2⟩
  · rw [if_neg hd, if_neg hd, Nat.div_eq_of_lt (show 2 * r < q by omega), Nat.mod_eq_of_lt (show 2 * r < q by omega)]
    exact ⟨by omega, rfl⟩

def TossRel (p q n a : Nat) (f : Nat → Int) (res : Bool × Nat × Bool) (w : World) (gk : Nat) (v3 v11 : Value) (wr : World) : Prop :=
  ∃ j r : Nat, a + j ≤ n ∧ gk + (a + j) = n + 1 ∧ v3 = .int .i64 ((a + j : Nat) : Int) ∧ v11 = .int .i64 ((j + 1 : Nat) : Int) ∧ p * 2 ^ j % q = r ∧ flipS f q (n - (a + j)) (a + j) r = res ∧ Below w.heap.size w wr

theorem toss_bounds (p q n j : Nat) (hj : j ≤ n) (hn : n ≤ 3000) (hp : p < 16777216) (hq : 0 < q) (hq2 : q < 16777216) :
    wc p ≤ 50000 ∧ wc (p * 2 ^ (j + 1)) ≤ 1000 ∧ Fair q ∧ wc (p * 2 ^ (j + 1) / q) ≤ 50000 ∧ wc (p * 2 ^ (j + 1) % q) ≤ 50000 := by
  have h0 : wc p ≤ 24 / 32 + 1 := wc_of_lt (n := 24) hp
  have h1 : wc (p * 2 ^ (j + 1)) ≤ (24 + 3001) / 32 + 1 := wc_shift (A := 24) (j + 1) 3001 hp (by omega)
  have h2 : wc q ≤ 24 / 32 + 1 := wc_of_lt (n := 24) hq2
  exact ⟨by omega, by omega, ⟨hq, by omega, .inl (by omega)⟩, Nat.le_trans (wc_mono (Nat.div_le_self _ _)) (by omega), Nat.le_trans (wc_mono (Nat.mod_le _ _)) (by omega)⟩

theorem flipS_step (f : Nat → Int) (q k a r : Nat) :
    flipS f q (k + 1) a r = if f a = ((if q ≤ 2 * r then 1 else 0 : Nat) : Int) then (if (if q ≤ 2 * r then 2 * r - q else 2 * r) = 0 then (false, a + 1, false) else flipS f q k (a + 1) ((if q ≤ 2 * r then 2 * r - q else 2 * r : Nat) : Int)) else (decide (f a < ((if q ≤ 2 * r then 1 else 0 : Nat) : Int)), a + 1, false) := by
  show (if (q : Int) ≤ 2 * (r : Int) then _ else _) = _
  by_cases h : q ≤ 2 * r
  · rw [if_pos (by omega)]
    simp only [if_pos h]
    have e : ((2 * r - q : Nat) : Int) = 2 * (r : Int) - q := by omega
    have e2 : (2 * (r : Int) - q = 0) ↔ (2 * r - q = 0) := by omega
    rw [e]
    simp only [e2]
    rfl
  · rw [if_neg (by omega)]
    simp only [if_neg h]
    have e2 : (2 * (r : Int) = 0) ↔ (2 * r = 0) := by omega
    simp only [e2]
    rfl

set_option maxRecDepth 100000 in
set_option maxHeartbeats 2000000 in
theorem toss_mid (p q n c a : Nat) (A : Option Addr) (f : Nat → Int) (w : World) (hn : n ≤ 3000) (hp : 0 < p) (hpq : p < q) (hq2 : q < 16777216) (hok : ∀ j, j < n → OkBit (f j)) (ha : a ≤ n) (hR : Row w A n f)
    (v s : Bool) (a' : Nat) (hres : Hid (flipS f q (n - a) a p = (v, a', s))) :
    Calls Tryd.prog 43 #[.int .i64 p, .int .i64 q, .slice A n c, .int .i64 a] w fun e w' => Below w.heap.size w w' ∧ e = .returned (.tuple #[.bool (v && !s), .int .i64 a', .bool (!s)]) := by
  have HS : Hid (TossRel p q n a f (v, a', s) w (n + 1 - a) (.int .i64 (a : Nat)) (.int .i64 1) w) := ⟨0, p, ha, by omega, rfl, rfl, by rw [Nat.pow_zero, Nat.mul_one, Nat.mod_eq_of_lt hpq], hres.out, Below.refl _ _⟩
  have HR := Lib.hid hR
  have HO := Lib.hid hok
  have z1 : ((p : Int) == (q : Int)) = false := by simp; omega
  have z2 : ((p : Int) == 0) = false := by simp; omega
  clear hR hok hres
  go_enter Tryd.func43, Tryd.ntmps43
  go_wp2_with fail
  go_loopg [3, 11, 12, 13, 14, 15] (n + 1 - a) (fun gk v3 v11 v12 v13 v14 v15 wr => TossRel p q n a f (v, a', s) w gk v3 v11 wr)
  case atStart => exact HS.out
  case round =>
    clear HS
    obtain ⟨j, r, hj, hgk, rfl, rfl, hr, hres, hbe⟩ := hrel
    obtain ⟨w0, w1, HF, w2, w3⟩ := toss_bounds p q n j (by omega) hn (by omega) (by omega) hq2
    obtain ⟨hd1, hd2⟩ := toss_div p q j r (by omega) hr
    have z0 := At.zero wr
    have hb0 := below_new wr (Obj.cells #[.bool false, .slice none 0 0] 101)
    have hsz0 : (wr.alloc (Obj.cells #[.bool false, .slice none 0 0] 101)).heap.size = wr.heap.size + 1 := by simp
    have HBE := Lib.hid hbe
    have HRES := Lib.hid hres
    have HHF := Lib.hid HF
    clear hbe hres HF
    go_wp2_with fail
    generalize wr.alloc (Obj.cells #[.bool false, .slice none 0 0] 101) = w4 at *
    refine (newint_z p w4 (by omega) (by omega)).mono ?_
    rintro e w5 ⟨hb5, rfl, hx5⟩
    have z5 := z0.below hb5
    have hb05 := hb0.trans (hb5.mono hb0.size)
    rw [hsz0] at hx5
    have CL := Lib.hid (lsh_n wr.heap.size 0 (wr.heap.size + 1) 0 (j + 1) p 0 w5 z5 hx5 w0 (by omega))
    clear z0 hb0 hb5 hx5 z5
    rw [show ((j + 1 : Nat) : Int) = (j : Int) + 1 by omega] at CL
    go_wp2_with fail
    refine CL.out.mono ?_
    rintro e w6 ⟨rfl, hP⟩
    have h6 : At w6 wr.heap.size 0 ((p * 2 ^ (j + 1) : Nat) : Int) := hP.at_
    have hb6 : Below wr.heap.size wr w6 := hP.below hb05 (Nat.le_refl _) hb05.size
    have hl6 := h6.lt
    have z7 := At.zero w6
    have hb7 := below_new w6 (Obj.cells #[.bool false, .slice none 0 0] 101)
    have hsz7 : (w6.alloc (Obj.cells #[.bool false, .slice none 0 0] 101)).heap.size = w6.heap.size + 1 := by simp
    clear hP CL hb05
    go_wp2_with fail
    generalize w6.alloc (Obj.cells #[.bool false, .slice none 0 0] 101) = w7 at *
    refine (newint_z q w7 (by omega) (by omega)).mono ?_
    rintro e w8 ⟨hb8, rfl, hy8⟩
    have z8 := z7.below hb8
    have h8 := (h6.below hb7).below hb8
    have hb08 := hb6.trans ((hb7.trans (hb8.mono hb7.size)).mono hb6.size)
    rw [hsz7] at hy8
    have hl8 := hy8.lt
    have z9 := At.zero w8
    have hb9 := below_new w8 (Obj.cells #[.bool false, .slice none 0 0] 101)
    have hb09 := hb08.trans (hb9.mono hb08.size)
    have CQ := Lib.hid (quorem_z w6.heap.size 0 w8.heap.size 0 wr.heap.size 0 (w6.heap.size + 1) 0 0 0 _ _ _ (z8.below hb9) z9 (h8.below hb9) (hy8.below hb9) (by omega) (by omega) (by show wc (p * 2 ^ (j + 1)) ≤ 50000; omega) HHF.out (by omega))
    rw [Int.natAbs_natCast, Int.natAbs_natCast] at CQ
    have HZ8 := Lib.hid (z8.below hb9)
    have HZ9 := Lib.hid z9
    clear z7 hb7 hb8 hy8 z8 h8 z9 hb6 h6 hb9 hb08
    go_wp2_with fail
    generalize w8.alloc (Obj.cells #[.bool false, .slice none 0 0] 101) = w9 at *
    refine CQ.out.mono ?_
    rintro e w10 ⟨rfl, wn, wm, hbn, hP, hP2⟩
    have hq10 : At w10 w6.heap.size 0 ((p * 2 ^ (j + 1) / q : Nat) : Int) := At.put hP.at_ ((HZ9.out.below hbn).put (HZ8.out.below hbn) hP (by omega)) hP2 (by omega)
    have hr10 : At w10 w8.heap.size 0 ((p * 2 ^ (j + 1) % q : Nat) : Int) := hP2.at_
    have hbm : Below wr.heap.size wr wm := hP.below (hb09.trans (hbn.mono hb09.size)) (by omega) (Nat.le_trans hb09.size hbn.size)
    have hb10 : Below wr.heap.size wr w10 := hP2.below hbm (by omega) hbm.size
    have hbw := HBE.out.trans (hb10.mono HBE.out.size)
    have HQ10 := Lib.hid hq10
    have HR10 := Lib.hid hr10
    have HB10 := Lib.hid hbw
    clear hP hP2 CQ hbn hbm HZ8 HZ9 hq10 hr10 hb10 hbw hb09
    have hres := HRES.out
    clear HRES
    by_cases hend : n ≤ a + j
    · rw [show n - (a + j) = 0 by omega] at hres
      have hres2 : (decide ((q : Int) ≤ 2 * (r : Int)), a + j, true) = (v, a', s) := hres
      injection hres2 with e1 e2
      injection e2 with e2 e3
      subst e3 e2
      clear hres e1
      go_wp2_with fail
      go_ret3
      exact ⟨HB10.out, by simp⟩
    · obtain ⟨k', hk'⟩ : ∃ k', n - (a + j) = k' + 1 := ⟨n - (a + j) - 1, by omega⟩
      rw [hk', flipS_step] at hres
      clear hr
      obtain ⟨b, off, rfl, hblt, hc⟩ := HR.out.below HB10.out (by omega)
      have hx := hc (a + j) (by omega)
      have hbit := HO.out (a + j) (by omega)
      generalize p * 2 ^ (j + 1) / q = D at *
      generalize hRe : p * 2 ^ (j + 1) % q = R at *
      have HRe := Lib.hid hRe
      clear hRe
      generalize f (a + j) = x at *
      have BD := Lib.hid (bit_z w6.heap.size 0 (D : Int) w10 HQ10.out (by omega) (by show wc D ≤ 50000; omega))
      rw [Int.natAbs_natCast, hd1] at BD
      have hdg1 : (if q ≤ 2 * r then 1 else 0 : Nat) ≤ 1 := by split <;> omega
      generalize (if q ≤ 2 * r then 1 else 0 : Nat) = dg at *
      generalize (if q ≤ 2 * r then 2 * r - q else 2 * r : Nat) = rr at *
      by_cases hxd : x = (dg : Int)
      · rw [if_pos hxd] at hres
        subst hxd
        have z3 : ((dg : Int) != (dg : Int)) = false := by simp
        have SG := Lib.hid (sign_z w8.heap.size 0 (R : Int) w10 HR10.out (by show wc R ≤ 50000; omega))
        subst hd2
        by_cases hr0 : R = 0
        · rw [if_pos hr0] at hres
          subst hr0
          injection hres with e1 e2
          injection e2 with e2 e3
          subst e1 e2 e3
          rw [show Int.sign ((0 : Nat) : Int) = 0 from rfl] at SG
          clear hd1
          go_wp2_with fail
          refine BD.out.mono ?_
          rintro e w11 ⟨rfl, rfl⟩
          go_wp2_with fail
          refine SG.out.mono ?_
          rintro e w12 ⟨rfl, rfl⟩
          go_wp2_with fail
          go_ret3
          exact ⟨HB10.out, by simp⟩
        · rw [if_neg hr0] at hres
          rw [show Int.sign (R : Int) = 1 from Int.sign_eq_one_of_pos (by omega)] at SG
          have HRES2 := Lib.hid hres
          clear hd1 hres
          go_wp2_with fail
          refine BD.out.mono ?_
          rintro e w11 ⟨rfl, rfl⟩
          go_wp2_with fail
          refine SG.out.mono ?_
          rintro e w12 ⟨rfl, rfl⟩
          go_wp2_with fail
          go_roundg (gk - 1)
          case measure => omega
          case rel => exact ⟨j + 1, R, by omega, by omega, by go_num, by go_num, HRe.out, by rw [show n - (a + (j + 1)) = k' by omega]; exact HRES2.out, HB10.out⟩
      · rw [if_neg hxd] at hres
        injection hres with e1 e2
        injection e2 with e2 e3
        subst e1 e2 e3
        have z3 : (x != (dg : Int)) = true := by simpa using hxd
        have z4 : decide (x < (dg : Int)) = (x == 0) := by
          rcases hbit with rfl | rfl
          · have : dg = 1 := by omega
            subst this
            rfl
          · have : dg = 0 := by omega
            subst this
            rfl
        have Z4 := Lib.hid z4
        clear hd1 hd2 z4
        go_wp2_with fail
        refine BD.out.mono ?_
        rintro e w11 ⟨rfl, rfl⟩
        go_wp2_with fail
        go_ret3
        exact ⟨HB10.out, by rw [Z4.out]; simp⟩
end Go.Proofs.YtjjfkidddjcdcaaDoor

namespace Go.Proofs.YtjjfkidddjcdcaaDoor
open Go.ChangeShapes Go.WideShapes Go.ChangeAt Go.RowKit

theorem toss_same (p a : Int) (n c : Nat) (A : Option Addr) (w : World) :
    Calls Tryd.prog 43 #[.int .i64 p, .int .i64 p, .slice A n c, .int .i64 a] w fun e w' => Below w.heap.size w w' ∧ e = .returned (.tuple #[.bool true, .int .i64 a, .bool true]) := by
  have z : (p == p) = true := by simp
  go_enter Tryd.func43, Tryd.ntmps43
  go_wp2_with fail
  go_ret3
  exact ⟨Below.refl _ _, rfl⟩
theorem toss_none (q a : Int) (n c : Nat) (A : Option Addr) (w : World) (hq : ¬ 0 = q) :
    Calls Tryd.prog 43 #[.int .i64 0, .int .i64 q, .slice A n c, .int .i64 a] w fun e w' => Below w.heap.size w w' ∧ e = .returned (.tuple #[.bool false, .int .i64 a, .bool true]) := by
  have z : ((0 : Int) == q) = false := by simp; omega
  clear hq
  go_enter Tryd.func43, Tryd.ntmps43
  go_wp2_with fail
  go_ret3
  exact ⟨Below.refl _ _, rfl⟩

theorem toss_any (p q : Int) (n c a : Nat) (A : Option Addr) (f : Nat → Int) (w : World) (hn : n ≤ 3000) (hp : 0 ≤ p) (hpq : p ≤ q) (hq : 1 ≤ q) (hq2 : q < 16777216) (hok : ∀ j, j < n → OkBit (f j)) (ha : a ≤ n) (hR : Row w A n f)
    (v s : Bool) (a' : Nat) (hres : Hid (tossS f n p q a = (v, a', s))) :
    Calls Tryd.prog 43 #[.int .i64 p, .int .i64 q, .slice A n c, .int .i64 (a : Nat)] w fun e w' => Below w.heap.size w w' ∧ e = .returned (.tuple #[.bool (v && !s), .int .i64 (a' : Nat), .bool (!s)]) := by
  have hr := hres.out
  clear hres
  unfold tossS at hr
  by_cases h1 : p = q
  · rw [if_pos h1] at hr
    subst h1
    injection hr with e1 e2
    injection e2 with e2 e3
    subst e1 e2 e3
    exact toss_same p _ n c A w
  · rw [if_neg h1] at hr
    by_cases h2 : p = 0
    · rw [if_pos h2] at hr
      subst h2
      injection hr with e1 e2
      injection e2 with e2 e3
      subst e1 e2 e3
      exact toss_none q _ n c A w h1
    · rw [if_neg h2] at hr
      obtain ⟨P, rfl⟩ : ∃ P : Nat, p = P := ⟨p.toNat, by omega⟩
      obtain ⟨Q, rfl⟩ : ∃ Q : Nat, q = Q := ⟨q.toNat, by omega⟩
      exact toss_mid P Q n c a A f w hn (by omega) (by omega) (by omega) hok ha hR v s a' hr

def FadesRel (f : Nat → Int) (n : Nat) (p q : Int) (res : Bool × Nat × Bool) (w : World) (gk : Nat) (v7 v9 : Value) (wr : World) : Prop :=
  ∃ k a : Nat, 1 ≤ k ∧ k ≤ a + 2 ∧ a ≤ n ∧ n + 3 ≤ gk + k ∧ v7 = .int .i64 (a : Nat) ∧ v9 = .int .i64 (k : Nat) ∧ fadeS f n p q gk k a = res ∧ Below w.heap.size w wr

/-- What Fades hands back: short: only that. -/
def FadesEnd (res : Bool × Nat × Bool) (w : World) (e : Ending) (w' : World) : Prop :=
  Below w.heap.size w w' ∧ (res.2.2 = false → e = .returned (.tuple #[.bool res.1, .int .i64 (res.2.1 : Nat), .bool true])) ∧ (res.2.2 = true → ∃ (b : Bool) (a : Nat), e = .returned (.tuple #[.bool b, .int .i64 (a : Nat), .bool false]))

set_option maxRecDepth 100000 in
set_option maxHeartbeats 4000000 in
theorem fades_any (p q : Int) (n c : Nat) (A : Option Addr) (f : Nat → Int) (w : World) (hn : n ≤ 2000) (hp : 0 ≤ p) (hpq : p ≤ q) (hq1 : 1 ≤ q) (hq : q ≤ 1000) (hok : ∀ j, j < n → OkBit (f j)) (hR : Row w A n f)
    (res : Bool × Nat × Bool) (hres : Hid (fadeS f n p q (n + 4) 1 0 = res)) :
    Calls Tryd.prog 44 #[.int .i64 p, .int .i64 q, .slice A n c] w (FadesEnd res w) := by
  have HS : Hid (FadesRel f n p q res w (n + 4) (.int .i64 0) (.int .i64 1) w) := ⟨1, 0, by omega, by omega, by omega, by omega, rfl, rfl, hres.out, Below.refl _ _⟩
  have HR := Lib.hid hR
  have HO := Lib.hid hok
  clear hR hok hres
  go_enter Tryd.func44, Tryd.ntmps44
  go_wp2_with fail
  go_loopg [7, 9] (n + 4) (fun gk v7 v9 wr => FadesRel f n p q res w gk v7 v9 wr)
  case atStart => exact HS.out
  case round =>
    clear HS
    obtain ⟨k, a, hk1, hk2, ha, hg, rfl, rfl, hres, hbe⟩ := hrel
    obtain ⟨g, rfl⟩ : ∃ g', gk = g' + 1 := ⟨gk - 1, by omega⟩
    obtain ⟨q1, q2, q3⟩ := fade_bound q k n hq1 hq hk1 (by omega) hn
    have hgrow := fun h => fade_grows p q k h hq1 hpq
    have hr0 := tossS_range f n p (q * k) a ha
    have HBE := Lib.hid hbe
    unfold fadeS at hres
    generalize hQ : q * (k : Int) = Q at *
    have C := Lib.hid (fun v s a' h => toss_any p Q n c a A f wr (by omega) hp (by omega) q1 (by omega) HO.out ha (HR.out.below HBE.out) v s a' h)
    obtain ⟨v', a', s', hT⟩ : ∃ v' a' s', tossS f n p Q a = (v', a', s') := ⟨_, _, _, rfl⟩
    rw [hT] at hr0 hres
    have C2 := Lib.hid (C.out v' s' a' hT)
    obtain ⟨r1, r2, r3, r4⟩ := hr0
    clear C hT hbe
    have hkd : (((k : Int) % 2) == 1) = decide (k % 2 = 1) := by rw [Bool.eq_iff_iff]; simp; omega
    cases s'
    · cases v'
      · have HRES : Hid ((decide (k % 2 = 1), a', false) = res) := Lib.hid (by simpa using hres)
        have C3 : Hid (Calls Tryd.prog 43 #[.int .i64 p, .int .i64 Q, .slice A n c, .int .i64 (a : Nat)] wr fun e w' => Below wr.heap.size wr w' ∧ e = .returned (.tuple #[.bool false, .int .i64 (a' : Nat), .bool true])) := C2.out
        generalize decide (k % 2 = 1) = d at *
        clear hres r3 r4 hgrow C2
        go_wp2_with fail
        refine C3.out.mono ?_
        rintro e w2 ⟨hb2, rfl⟩
        have HB2 := Lib.hid (HBE.out.trans (hb2.mono HBE.out.size))
        clear hb2 hQ C3 HBE
        go_wp2_with fail
        go_ret3
        have e := HRES.out
        subst e
        exact ⟨HB2.out, (fun _ => rfl), (fun h => by cases h)⟩
      · have HRES : Hid (fadeS f n p q g (k + 1) a' = res) := Lib.hid (by simpa using hres)
        have C3 : Hid (Calls Tryd.prog 43 #[.int .i64 p, .int .i64 Q, .slice A n c, .int .i64 (a : Nat)] wr fun e w' => Below wr.heap.size wr w' ∧ e = .returned (.tuple #[.bool true, .int .i64 (a' : Nat), .bool true])) := C2.out
        have hka : k + 1 ≤ a' + 2 := by
          by_cases h : 2 ≤ k
          · have h3 : a < a' := r3 (hgrow h) rfl rfl
            omega
          · omega
        clear hres r3 r4 hgrow C2 hkd
        go_wp2_with fail
        refine C3.out.mono ?_
        rintro e w2 ⟨hb2, rfl⟩
        have HB2 := Lib.hid (HBE.out.trans (hb2.mono HBE.out.size))
        clear hb2 hQ C3 HBE
        go_wp2_with fail
        go_roundg g
        case measure => omega
        case rel => exact ⟨k + 1, a', by omega, hka, r2, by omega, rfl, by go_num, HRES.out, HB2.out⟩
    · have HRES : Hid ((false, n, true) = res) := Lib.hid (by simpa using hres)
      have C3 : Hid (Calls Tryd.prog 43 #[.int .i64 p, .int .i64 Q, .slice A n c, .int .i64 (a : Nat)] wr fun e w' => Below wr.heap.size wr w' ∧ e = .returned (.tuple #[.bool false, .int .i64 (a' : Nat), .bool false])) := Lib.hid (by simpa using C2.out)
      generalize decide (k % 2 = 1) = d at *
      clear hres r3 r4 hgrow C2
      go_wp2_with fail
      refine C3.out.mono ?_
      rintro e w2 ⟨hb2, rfl⟩
      have HB2 := Lib.hid (HBE.out.trans (hb2.mono HBE.out.size))
      clear hb2 hQ C3 HBE
      go_wp2_with fail
      go_ret3
      have e := HRES.out
      subst e
      exact ⟨HB2.out, (fun h => by cases h), (fun _ => ⟨_, _, rfl⟩)⟩
end Go.Proofs.YtjjfkidddjcdcaaDoor
