/- Proved here: plain facts of flips on bits: how far they read; what Toss, Choose, Fade come to; no program in sight. Conditions: as each theorem says.
   Proved here: contracts of package chance's Fade at this program. Conditions: as each theorem says.
   Proved here: contracts of package chance's Fade at this program, of wrong p, q or bits. Conditions: as each theorem says. -/
import Derived.Test.YtjjfkidddjcdcaaDoorPickAt
namespace Go.Proofs.YtjjfkidddjcdcaaDoor

theorem flipS_range (f : Nat → Int) (q : Int) : ∀ (k a : Nat) (p : Int), a ≤ (flipS f q k a p).2.1 ∧ (flipS f q k a p).2.1 ≤ a + k ∧ ((flipS f q k a p).2.2 = false → a < (flipS f q k a p).2.1) ∧ ((flipS f q k a p).2.2 = true → (flipS f q k a p).2.1 = a + k)
  | 0, a, p => by unfold flipS; simp
  | k + 1, a, p => by
    have h1 := flipS_range f q k (a + 1) (2 * p - q)
    have h2 := flipS_range f q k (a + 1) (2 * p)
    unfold flipS
    split
    · split
      · split
        · exact ⟨by simp, by simp, by simp, by simp⟩
        · exact ⟨by omega, by omega, fun h => by have := h1.2.2.1 h; omega, fun h => by have := h1.2.2.2 h; omega⟩
      · exact ⟨by simp, by simp, by simp, by simp⟩
    · split
      · split
        · exact ⟨by simp, by simp, by simp, by simp⟩
        · exact ⟨by omega, by omega, fun h => by have := h2.2.2.1 h; omega, fun h => by have := h2.2.2.2 h; omega⟩
      · exact ⟨by simp, by simp, by simp, by simp⟩

/-- What Toss comes to: what it says, where it stops, whether it fell short. -/
def tossS (f : Nat → Int) (n : Nat) (p q : Int) (a : Nat) : Bool × Nat × Bool :=
  if p = q then (true, a, false) else if p = 0 then (false, a, false) else flipS f q (n - a) a p

theorem tossS_range (f : Nat → Int) (n : Nat) (p q : Int) (a : Nat) (ha : a ≤ n) : a ≤ (tossS f n p q a).2.1 ∧ (tossS f n p q a).2.1 ≤ n ∧ (p ≠ q → (tossS f n p q a).1 = true → (tossS f n p q a).2.2 = false → a < (tossS f n p q a).2.1) ∧ ((tossS f n p q a).2.2 = true → (tossS f n p q a).2.1 = n) := by
  have h := flipS_range f q (n - a) a p
  unfold tossS
  split
  · exact ⟨by simp, by simpa using ha, fun h => absurd ‹p = q› h, by simp⟩
  · split
    · exact ⟨by simp, by simpa using ha, by simp, by simp⟩
    · exact ⟨h.1, by omega, fun _ _ h3 => h.2.2.1 h3, fun h3 => by have := h.2.2.2 h3; omega⟩

/-- What Fade comes to; the first number says how many rounds may come. -/
def fadeS (f : Nat → Int) (n : Nat) (p q : Int) : Nat → Nat → Nat → Bool × Nat × Bool
  | 0, _, _ => (false, n, true)
  | g + 1, k, a =>
    if (tossS f n p (q * k) a).2.2 then (false, n, true)
    else if (tossS f n p (q * k) a).1 then fadeS f n p q g (k + 1) (tossS f n p (q * k) a).2.1
    else (decide (k % 2 = 1), (tossS f n p (q * k) a).2.1, false)

theorem fade_grows (p q : Int) (k : Nat) (hk : 2 ≤ k) (hq : 1 ≤ q) (hpq : p ≤ q) : p ≠ q * k := by
  have h : q * 2 ≤ q * (k : Int) := Int.mul_le_mul_of_nonneg_left (by omega) (by omega)
  omega
theorem fade_bound (q : Int) (k n : Nat) (hq : 1 ≤ q) (hq2 : q ≤ 1000) (hk1 : 1 ≤ k) (hk : k ≤ n + 2) (hn : n ≤ 2000) : 1 ≤ q * (k : Int) ∧ q * (k : Int) ≤ 2002000 ∧ q ≤ q * (k : Int) := by
  have h1 : q * 1 ≤ q * (k : Int) := Int.mul_le_mul_of_nonneg_left (by omega) (by omega)
  have h2 : q * (k : Int) ≤ 1000 * (k : Int) := Int.mul_le_mul_of_nonneg_right hq2 (by omega)
  omega
end Go.Proofs.YtjjfkidddjcdcaaDoor

namespace Go.Proofs.YtjjfkidddjcdcaaDoor
open Go.ChangeShapes Go.WideShapes Go.ChangeAt Go.RowKit

def FadeRel (f : Nat → Int) (p q : Int) (res : Bool × Nat × Bool) (w : World) (t : Nat) (A : Option Addr) (n c gk : Nat) (v11 : Value) (wr : World) : Prop :=
  (∃ g k a : Nat, gk = g + 1 ∧ 1 ≤ k ∧ k ≤ a + 2 ∧ a ≤ n ∧ n + 3 ≤ g + k ∧ v11 = .int .i64 k ∧ fadeS f n p q g k a = res ∧ To w wr t A n c a false) ∨
  (gk = 0 ∧ (∃ k : Nat, 1 ≤ k ∧ k ≤ n + 3 ∧ v11 = .int .i64 k) ∧ res.2.2 = true ∧ To w wr t A n c n true)

theorem told_fin {z X : Value} {v s d s' : Bool} {a b n : Nat} (hv : toldS z (.bool v, a, s) n = X) (h : (d, b, s') = (v, a, s)) : toldS z (.bool d, b, s') n = X := by
  injection h with h1 h2
  injection h2 with h2 h3
  subst h1 h2 h3
  exact hv
theorem told_fin_short {z X : Value} {v s d : Bool} {a b n : Nat} (hv : toldS z (.bool v, a, s) n = X) (h : s = true) : toldS z (.bool d, b, true) n = X := by
  subst h
  exact hv
theorem toldS_short (z x y : Value) (a b n : Nat) : toldS z (x, a, true) n = toldS z (y, b, true) n := rfl

set_option maxRecDepth 100000 in
set_option maxHeartbeats 8000000 in
theorem fade_mid (p q : Int) (n c : Nat) (A : Option Addr) (f : Nat → Int) (w : World) (hn : n ≤ 2000) (hR : Row w A n f) (hok : ∀ j, j < n → OkBit (f j)) (hp : 0 ≤ p) (hpq : p ≤ q) (hq1 : 1 ≤ q) (hq : q ≤ 1000)
    (v s : Bool) (a : Nat) (hres : Hid (fadeS f n p q (n + 4) 1 0 = (v, a, s))) (x1 : Bool) (x2 x3 x4 : Int) (hv : Hid (toldS (.bool false) (.bool v, a, s) n = .tuple #[.bool x1, .int .i64 x2, .agg #[.int .i64 x3, .int .i64 x4]])) :
    Calls Tryd.prog 45 #[.int .i64 p, .int .i64 q, .slice A n c] w fun e w' => e = .returned (.tuple #[.bool x1, .int .i64 x2, .agg #[.int .i64 x3, .int .i64 x4]]) ∧ Below w.heap.size w w' := by
  have HR := Lib.hid hR
  have HO := Lib.hid hok
  clear hR hok
  go_enter Tryd.func45, Tryd.ntmps45
  go_wp2_with fail
  have H0 := Lib.hid (Held.new w)
  refine (check_ok n c A f _ hn (HR.out.below ((Below.refl _ _).alloc (Nat.le_refl _) _)) HO.out).mono ?_
  rintro e w1 ⟨rfl, hb1⟩
  have H1 := Lib.hid (H0.out.below hb1)
  have HR1 := Lib.hid ((HR.out.below ((Below.refl _ _).alloc (Nat.le_refl _) _)).below hb1)
  clear hb1 H0
  have hz : w.heap.size < w1.heap.size := H1.out.sz
  go_wp2_with fail
  all_goals first | (exfalso; omega) | skip
  have HT : Tape ((w1.alloc (Obj.cells #[Value.int IntKind.i64 0, Value.int IntKind.i64 0] 26)).alloc (Obj.cells #[Value.slice A n c, Value.int IntKind.i64 0, Value.bool false] 85)) (w1.heap.size + 1) A n c 0 false := Whole.new _ _ _ _ (by simp)
  have HR2 := Lib.hid ((HR1.out.below ((Below.refl _ _).alloc (Nat.le_refl _) (Obj.cells #[Value.int IntKind.i64 0, Value.int IntKind.i64 0] 26))).below ((Below.refl _ _).alloc (Nat.le_refl _) (Obj.cells #[Value.slice A n c, Value.int IntKind.i64 0, Value.bool false] 85)))
  have H2 := Lib.hid ((H1.out.alloc (Obj.cells #[Value.int IntKind.i64 0, Value.int IntKind.i64 0] 26)).alloc (Obj.cells #[Value.slice A n c, Value.int IntKind.i64 0, Value.bool false] 85))
  have hA : Apart A n (w1.heap.size + 1) := HR1.out.apart (by omega)
  have HA := Lib.hid hA
  have ht : w.heap.size < w1.heap.size + 1 := by omega
  clear hA HR HR1 H1
  generalize ((w1.alloc (Obj.cells #[Value.int IntKind.i64 0, Value.int IntKind.i64 0] 26)).alloc (Obj.cells #[Value.slice A n c, Value.int IntKind.i64 0, Value.bool false] 85)) = w2 at *
  generalize w1.heap.size + 1 = t at *
  have HS : Hid (FadeRel f p q (v, a, s) w2 t A n c (n + 5) (.int .i64 1) w2) := .inl ⟨n + 4, 1, 0, rfl, by omega, by omega, by omega, by omega, rfl, hres.out, To.refl HT⟩
  clear HT hres
  go_loopg [11, 12] (n + 5) (fun gk v11 v12 wr => FadeRel f p q (v, a, s) w2 t A n c gk v11 wr)
  case atStart => exact HS.out
  case round =>
    clear HS
    rcases hrel with ⟨g, k, a', rfl, hk1, hk2, ha, hg, rfl, hres, hTo⟩ | ⟨rfl, ⟨k, hk1, hk2, rfl⟩, hsh, hTo⟩
    · obtain ⟨g, rfl⟩ : ∃ g', g = g' + 1 := ⟨g - 1, by omega⟩
      have h2 : wr.cell? ⟨t, 2, none⟩ = some (.bool false) := hTo.1.cell 2
      obtain ⟨q1, q2, q3⟩ := fade_bound q k n hq1 hq hk1 (by omega) hn
      have hgrow := fun h => fade_grows p q k h hq1 hpq
      have hr0 := tossS_range f n p (q * k) a' ha
      unfold fadeS at hres
      generalize hQ : q * (k : Int) = Q at *
      have hQ' : (k : Int) * q = Q := by rw [Int.mul_comm]; exact hQ
      have HTo := Lib.hid hTo
      clear hTo
      by_cases hpQ : p = Q
      · have e1 : tossS f n p Q a' = (true, a', false) := if_pos hpQ
        rw [e1] at hres
        have HRES := Lib.hid hres
        have hk : k = 1 := by
          apply Classical.byContradiction; intro h; exact hgrow (by omega) hpQ
        clear hres e1 hr0 hgrow
        subst hk
        have hpe : p = q := by rw [hpQ, ← hQ]; exact Int.mul_one q
        have z1 : (p == q) = true := by simpa using hpe
        have hp1 : 0 < p := by omega
        clear hpe hpQ hQ hQ' q3
        go_wp2_with fail
        go_roundg (g + 1)
        case measure => omega
        case rel => exact .inl ⟨g, 2, a', rfl, by omega, by omega, ha, by omega, rfl, HRES.out, HTo.out⟩
      · have z1 : (p == Q) = false := by simp; omega
        by_cases hp0 : p = 0
        · have e1 : tossS f n p Q a' = (false, a', false) := by unfold tossS; rw [if_neg hpQ, if_pos hp0]
          rw [e1] at hres
          have FIN : toldS (.bool false) (.bool (decide (k % 2 = 1)), a', false) n = .tuple #[.bool x1, .int .i64 x2, .agg #[.int .i64 x3, .int .i64 x4]] := told_fin hv.out (by simpa using hres)
          have hkd : (((k : Int) % 2) == 1) = decide (k % 2 = 1) := by rw [Bool.eq_iff_iff]; simp; omega
          generalize decide (k % 2 = 1) = d at *
          clear hres e1 hr0 hgrow
          subst hp0
          go_wp2_with fail
          have H3 := Lib.hid (H2.out.grown (HTo.out).2 ht)
          refine (told_bool t n c a' A d false _ (HTo.out).1).mono ?_
          rw [FIN]
          rintro e w4 ⟨rfl, hb4⟩
          have H4 := H3.out.below hb4
          have H5 := Lib.hid H4
          obtain ⟨c0, c1, f0, f1, sz, be⟩ := H4
          clear hb4 be H3
          go_wp2_with fail
          exact bodyPost_ret (v := .tuple #[.bool x1, .int .i64 x2, .agg #[.int .i64 x3, .int .i64 x4]]) (by simp [results, Tryd.results45, go_sem, c0, c1]) rfl ⟨rfl, (H5.out.be.setCell (Nat.le_refl _) _).setCell (Nat.le_refl _) _⟩
        · have e1 : tossS f n p Q a' = flipS f Q (n - a') a' p := by unfold tossS; rw [if_neg hpQ, if_neg hp0]
          have C := Lib.hid (fun res hres => flip_any t n c A f Q (by omega) q1 (by omega) (n - a') a' p wr (by omega) hp (by omega) HTo.out.1 (HR2.out.grown HTo.out.2 HA.out) HA.out res hres)
          rw [← e1] at C
          clear e1
          obtain ⟨v', b', s', hT⟩ : ∃ v' b' s', tossS f n p Q a' = (v', b', s') := ⟨_, _, _, rfl⟩
          rw [hT] at C hr0 hres
          have C' := Lib.hid (C.out _ rfl)
          obtain ⟨r1, r2, r3, r4⟩ := hr0
          have hp1 : 0 < p := by omega
          clear C hT hgrow hQ' hp0
          cases s'
          · cases v'
            · have FIN : toldS (.bool false) (.bool (decide (k % 2 = 1)), b', false) n = .tuple #[.bool x1, .int .i64 x2, .agg #[.int .i64 x3, .int .i64 x4]] := told_fin hv.out (by simpa using hres)
              have hkd : (((k : Int) % 2) == 1) = decide (k % 2 = 1) := by rw [Bool.eq_iff_iff]; simp; omega
              generalize decide (k % 2 = 1) = d at *
              clear hres r3 r4
              go_wp2_with fail
              refine C'.out.mono ?_
              rintro e w3 ⟨rfl, hTo3⟩
              have HTo3 := Lib.hid (HTo.out.trans hTo3)
              clear hTo3 C' HTo
              go_wp2_with fail
              have H3 := Lib.hid (H2.out.grown (HTo3.out).2 ht)
              refine (told_bool t n c b' A d false _ (HTo3.out).1).mono ?_
              rw [FIN]
              rintro e w4 ⟨rfl, hb4⟩
              have H4 := H3.out.below hb4
              have H5 := Lib.hid H4
              obtain ⟨c0, c1, f0, f1, sz, be⟩ := H4
              clear hb4 be H3
              go_wp2_with fail
              exact bodyPost_ret (v := .tuple #[.bool x1, .int .i64 x2, .agg #[.int .i64 x3, .int .i64 x4]]) (by simp [results, Tryd.results45, go_sem, c0, c1]) rfl ⟨rfl, (H5.out.be.setCell (Nat.le_refl _) _).setCell (Nat.le_refl _) _⟩
            · have r3' := r3 hpQ rfl rfl
              have HRES := Lib.hid hres
              clear hres r3 r4
              go_wp2_with fail
              refine C'.out.mono ?_
              rintro e w3 ⟨rfl, hTo3⟩
              have HTo3 := Lib.hid (HTo.out.trans hTo3)
              clear hTo3 C' HTo
              go_wp2_with fail
              go_roundg (g + 1)
              case measure => omega
              case rel => exact .inl ⟨g, k + 1, b', rfl, by omega, by omega, r2, by omega, by go_num, HRES.out, HTo3.out⟩
          · obtain rfl : b' = n := r4 rfl
            have hsh : s = true := by
              have h : (false, b', true) = (v, a, s) := by simpa using hres
              injection h with _ h; injection h with _ h; exact h.symm
            clear hres r3 r4
            cases v'
            · have FIN : toldS (.bool false) (.bool (decide (k % 2 = 1)), b', true) b' = .tuple #[.bool x1, .int .i64 x2, .agg #[.int .i64 x3, .int .i64 x4]] := told_fin_short hv.out hsh
              have hkd : (((k : Int) % 2) == 1) = decide (k % 2 = 1) := by rw [Bool.eq_iff_iff]; simp; omega
              generalize decide (k % 2 = 1) = d at *
              go_wp2_with fail
              refine C'.out.mono ?_
              rintro e w3 ⟨rfl, hTo3⟩
              have HTo3 := Lib.hid (HTo.out.trans hTo3)
              clear hTo3 C' HTo
              go_wp2_with fail
              have H3 := Lib.hid (H2.out.grown (HTo3.out).2 ht)
              refine (told_bool t b' c b' A d true _ (HTo3.out).1).mono ?_
              rw [FIN]
              rintro e w4 ⟨rfl, hb4⟩
              have H4 := H3.out.below hb4
              have H5 := Lib.hid H4
              obtain ⟨c0, c1, f0, f1, sz, be⟩ := H4
              clear hb4 be H3
              go_wp2_with fail
              exact bodyPost_ret (v := .tuple #[.bool x1, .int .i64 x2, .agg #[.int .i64 x3, .int .i64 x4]]) (by simp [results, Tryd.results45, go_sem, c0, c1]) rfl ⟨rfl, (H5.out.be.setCell (Nat.le_refl _) _).setCell (Nat.le_refl _) _⟩
            · go_wp2_with fail
              refine C'.out.mono ?_
              rintro e w3 ⟨rfl, hTo3⟩
              have HTo3 := Lib.hid (HTo.out.trans hTo3)
              clear hTo3 C' HTo
              go_wp2_with fail
              go_roundg 0
              case measure => omega
              case rel => exact .inr ⟨rfl, ⟨k + 1, by omega, by omega, by go_num⟩, hsh, HTo3.out⟩
    · have h2 : wr.cell? ⟨t, 2, none⟩ = some (.bool true) := hTo.1.cell 2
      have hkd : (((k : Int) % 2) == 1) = decide (k % 2 = 1) := by rw [Bool.eq_iff_iff]; simp; omega
      have FIN : toldS (.bool false) (.bool (decide (k % 2 = 1)), n, true) n = .tuple #[.bool x1, .int .i64 x2, .agg #[.int .i64 x3, .int .i64 x4]] := told_fin_short hv.out hsh
      generalize decide (k % 2 = 1) = d at *
      have HTo := Lib.hid hTo
      clear hTo hsh
      go_wp2_with fail
      have H3 := Lib.hid (H2.out.grown (HTo.out).2 ht)
      refine (told_bool t n c n A d true _ (HTo.out).1).mono ?_
      rw [FIN]
      rintro e w4 ⟨rfl, hb4⟩
      have H4 := H3.out.below hb4
      have H5 := Lib.hid H4
      obtain ⟨c0, c1, f0, f1, sz, be⟩ := H4
      clear hb4 be H3
      go_wp2_with fail
      exact bodyPost_ret (v := .tuple #[.bool x1, .int .i64 x2, .agg #[.int .i64 x3, .int .i64 x4]]) (by simp [results, Tryd.results45, go_sem, c0, c1]) rfl ⟨rfl, (H5.out.be.setCell (Nat.le_refl _) _).setCell (Nat.le_refl _) _⟩

end Go.Proofs.YtjjfkidddjcdcaaDoor

namespace Go.Proofs.YtjjfkidddjcdcaaDoor
open Go.ChangeShapes Go.WideShapes Go.ChangeAt Go.RowKit

set_option maxHeartbeats 1000000 in
theorem fade_range (p q : Int) (n c : Nat) (A : Option Addr) (f : Nat → Int) (w : World) (hn : n ≤ 2000) (hR : Row w A n f) (hok : ∀ j, j < n → OkBit (f j)) (hbad : q < 1 ∨ 1000 < q ∨ p < 0 ∨ q < p) :
    Calls Tryd.prog 45 #[.int .i64 p, .int .i64 q, .slice A n c] w fun e w' => e = .returned (.tuple #[.bool false, .int .i64 0, .agg #[.int .i64 3, .int .i64 n]]) ∧ Below w.heap.size w w' := by
  have HR := Lib.hid hR
  have HO := Lib.hid hok
  have HB := Lib.hid hbad
  clear hR hok hbad
  go_enter Tryd.func45, Tryd.ntmps45
  go_wp2_with fail
  have H0 := Lib.hid (Held.new w)
  refine (check_ok n c A f _ hn (HR.out.below ((Below.refl _ _).alloc (Nat.le_refl _) _)) HO.out).mono ?_
  rintro e w1 ⟨rfl, hb1⟩
  have H1 := Lib.hid (H0.out.below hb1)
  clear hb1 H0
  have hz : w.heap.size < w1.heap.size := H1.out.sz
  have H5 := Lib.hid H1.out
  obtain ⟨c0, c1, f0, f1, sz, be⟩ := H1.out
  clear be H1
  go_wp2_with fail
  all_goals first | (exfalso; have := HB.out; omega) | skip
  all_goals exact bodyPost_ret (v := .tuple #[.bool false, .int .i64 0, .agg #[.int .i64 3, .int .i64 n]]) (by simp [results, Tryd.results45, go_sem, c0, c1, hz]) rfl ⟨rfl, ((H5.out.be.setCell (Nat.le_refl _) _).setCell (Nat.le_refl _) _).alloc (by simp; omega) _⟩

set_option maxHeartbeats 1000000 in
theorem fade_fault (p q code at_ : Int) (n c : Nat) (A : Option Addr) (w : World) (hC : Refuses A n c code at_ (w.alloc (Obj.cells #[.int .i64 0, .int .i64 0] 26))) (hcode : (code != 0) = true) :
    Calls Tryd.prog 45 #[.int .i64 p, .int .i64 q, .slice A n c] w fun e w' => e = .returned (.tuple #[.bool false, .int .i64 0, .agg #[.int .i64 code, .int .i64 at_]]) ∧ Below w.heap.size w w' := by
  have HC := Lib.hid hC
  clear hC
  go_enter Tryd.func45, Tryd.ntmps45
  go_wp2_with fail
  have H0 := Lib.hid (Held.new w)
  refine HC.out.mono ?_
  rintro e w1 ⟨rfl, hb1⟩
  have H1 := Lib.hid (H0.out.below hb1)
  clear hb1 H0
  have hz : w.heap.size < w1.heap.size := H1.out.sz
  have H5 := Lib.hid H1.out
  obtain ⟨c0, c1, f0, f1, sz, be⟩ := H1.out
  clear be H1
  go_wp2_with fail
  go_region
  go_wp2_with fail
  exact bodyPost_ret (v := .tuple #[.bool false, .int .i64 0, .agg #[.int .i64 code, .int .i64 at_]]) (by simp [results, Tryd.results45, go_sem, c0, c1, hz]) rfl ⟨rfl, (((H5.out.be.setCell (Nat.le_refl _) _).setCell (Nat.le_refl _) _).alloc (by simp; omega) _).drew⟩
end Go.Proofs.YtjjfkidddjcdcaaDoor
