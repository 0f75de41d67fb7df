/- Proved here: plain facts of Unit on bits: the first one, how many bits are read, what number they make; no program in sight. Conditions: as each theorem says.
   Proved here: the contract of package chance's Unit at this program, of wrong bits. Conditions: as the theorem says.
   Proved here: the contract of package chance's Unit at this program, of right bits. Conditions: as the theorem says. (Printed by tools/gen_unit.py.) -/
import Derived.Test.YtjjfkidddjcdcaaDoorPickAt
import Derived.Test.YtjjfkidddjcdcaaDoorFlip
namespace Go.Proofs.YtjjfkidddjcdcaaDoor

/-- What Unit comes to on n bits: the number that the bits make that are read, how many, whether there were too few. -/
def UnitS (f : Nat → Int) (n : Nat) (M used : Nat) (sh : Bool) : Prop :=
  (∃ j, j < 1074 ∧ j < n ∧ f j = 1 ∧ (∀ i, i < j → f i = 0) ∧ used = min (j + 53) 1074 ∧ sh = decide (n < used) ∧ (sh = false → (M : Int) = val f n 0 used)) ∨
  ((∀ i, i < n → i < 1074 → f i = 0) ∧ used = 1074 ∧ M = 0 ∧ sh = decide (n < 1074))

theorem unitS_total (f : Nat → Int) (n : Nat) (hok : ∀ j, j < n → OkBit (f j)) : ∃ M used sh, UnitS f n M used sh := by
  have key : ∀ k, (∀ i, i < k → i < n → i < 1074 → f i = 0) ∨ ∃ j, j < 1074 ∧ j < n ∧ f j = 1 ∧ ∀ i, i < j → f i = 0 := by
    intro k
    induction k with
    | zero => exact .inl (fun i h => by omega)
    | succ k ih =>
      rcases ih with ih | ih
      · by_cases h : k < n ∧ k < 1074
        · rcases hok k h.1 with h0 | h1
          · refine .inl fun i hi hn h1074 => ?_
            by_cases e : i = k
            · rw [e]; exact h0
            · exact ih i (by omega) hn h1074
          · exact .inr ⟨k, h.2, h.1, h1, fun i hi => ih i hi (by omega) (by omega)⟩
        · refine .inl fun i hi hn h1074 => ?_
          by_cases e : i = k
          · subst e; exact absurd ⟨hn, h1074⟩ h
          · exact ih i (by omega) hn h1074
      · exact .inr ih
  rcases key n with h | ⟨j, h1, h2, h3, h4⟩
  · exact ⟨0, 1074, _, .inr ⟨fun i h1 h2 => h i h1 h1 h2, rfl, rfl, rfl⟩⟩
  · have hv := val_bound f n 0 hok (min (j + 53) 1074)
    exact ⟨(val f n 0 (min (j + 53) 1074)).toNat, _, _, .inl ⟨j, h1, h2, h3, h4, rfl, rfl, fun _ => Int.toNat_of_nonneg hv.1⟩⟩

theorem val_zero (f : Nat → Int) (n a : Nat) : ∀ k, (∀ i, i < k → a + i < n → f (a + i) = 0) → val f n a k = 0
  | 0, _ => rfl
  | k + 1, h => by
    unfold val
    rw [val_zero f n a k (fun i hi => h i (by omega))]
    unfold bitAt
    split
    · rw [h k (by omega) (by omega)]; rfl
    · rfl

/-- What a leading one and the next k bits make. -/
def mant (f : Nat → Int) (n a k : Nat) : Int := (2 : Int) ^ k + val f n a k
theorem mant_zero (f : Nat → Int) (n a : Nat) : mant f n a 0 = 1 := rfl
theorem mant_succ (f : Nat → Int) (n a k : Nat) : mant f n a (k + 1) = 2 * mant f n a k + bitAt f n (a + k) := by
  unfold mant
  rw [Int.pow_succ]
  show _ + (2 * val f n a k + bitAt f n (a + k)) = _
  omega
theorem mant_bound (f : Nat → Int) (n a k : Nat) (hok : ∀ j, j < n → OkBit (f j)) : 0 ≤ mant f n a k ∧ mant f n a k < 2 ^ (k + 1) := by
  have h := val_bound f n a hok k
  have h2 : (0 : Int) ≤ 2 ^ k := Int.le_of_lt (Int.pow_pos (by omega))
  unfold mant
  rw [Int.pow_succ]
  omega
theorem val_mant (f : Nat → Int) (n j : Nat) (hj : j < n) (h1 : f j = 1) (h0 : ∀ i, i < j → f i = 0) : ∀ k, val f n 0 (j + 1 + k) = mant f n (j + 1) k
  | 0 => by
    show 2 * val f n 0 j + bitAt f n (0 + j) = 1
    rw [val_zero f n 0 j (fun i hi _ => by rw [Nat.zero_add]; exact h0 i hi), Nat.zero_add]
    unfold bitAt
    rw [if_pos hj, h1]; rfl
  | k + 1 => by
    rw [mant_succ, ← val_mant f n j hj h1 h0 k, show j + 1 + (k + 1) = (j + 1 + k) + 1 by omega]
    show 2 * val f n 0 (j + 1 + k) + bitAt f n (0 + (j + 1 + k)) = _
    rw [Nat.zero_add]

theorem unitS_bound {f : Nat → Int} {n M used : Nat} {sh : Bool} (h : UnitS f n M used sh) (hs : sh = false) (hok : ∀ j, j < n → OkBit (f j)) : M < 2 ^ 53 ∧ used ≤ 1074 := by
  rcases h with ⟨j, hj, hjn, h1, h0, hu, _, hM⟩ | ⟨_, hu, hM, _⟩
  · refine ⟨?_, by omega⟩
    obtain ⟨k, hk, hk2⟩ : ∃ k, used = j + 1 + k ∧ k ≤ 52 := ⟨used - (j + 1), by omega, by omega⟩
    have hv := hM hs
    rw [hk, val_mant f n j hjn h1 h0 k] at hv
    have hb := (mant_bound f n (j + 1) k hok).2
    have hp : 2 ^ (k + 1) ≤ 2 ^ 53 := PL.pow_bound _ _ (by omega)
    rw [← hv, pow_cast] at hb
    omega
  · subst hM
    exact ⟨by omega, by omega⟩
end Go.Proofs.YtjjfkidddjcdcaaDoor

namespace Go.Proofs.YtjjfkidddjcdcaaDoor
open Go.ChangeShapes Go.WideShapes Go.ChangeAt Go.RowKit

set_option maxHeartbeats 1000000 in
theorem unit_fault (code at_ : Int) (n c : Nat) (A : Option Addr) (w : World) (hC : Refuses A n c code at_ (w.alloc (Obj.cells #[.int .i64 0, .int .i64 0] 26))) (hcode : (code != 0) = true) :
    Calls Tryd.prog 52 #[.slice A n c] w fun e w' => e = .returned (.tuple #[.float .f64 0, .int .i64 0, .agg #[.int .i64 code, .int .i64 at_]]) ∧ Below w.heap.size w w' := by
  have HC := Lib.hid hC
  clear hC
  go_enter Tryd.func52, Tryd.ntmps52
  go_wp2_with fail
  have H0 := Lib.hid (Held.new w)
  refine HC.out.mono ?_
  rintro e w1 ⟨rfl, hb1⟩
  have H1 := Lib.hid (H0.out.below hb1)
  clear hb1 H0
  have hz : w.heap.size < w1.heap.size := H1.out.sz
  have H5 := Lib.hid H1.out
  obtain ⟨c0, c1, f0, f1, sz, be⟩ := H1.out
  clear be H1
  go_wp2_with fail
  go_region
  go_wp2_with fail
  exact bodyPost_ret (v := .tuple #[.float .f64 0, .int .i64 0, .agg #[.int .i64 code, .int .i64 at_]]) (by simp [results, Tryd.results52, go_sem, c0, c1, hz]) rfl ⟨rfl, (((H5.out.be.setCell (Nat.le_refl _) _).setCell (Nat.le_refl _) _).alloc (by simp; omega) _).drew⟩
end Go.Proofs.YtjjfkidddjcdcaaDoor

namespace Go.Proofs.YtjjfkidddjcdcaaDoor
open Go.ChangeShapes Go.WideShapes Go.ChangeAt Go.RowKit

/-- What is known at the end: a0 the place, e the power, k how many bits are read behind. -/
def UnitEnds (f : Nat → Int) (n M used : Nat) (sh : Bool) (e a0 k : Nat) : Prop := (n < a0 + k → sh = true) ∧ (¬ n < a0 + k → sh = false ∧ used = e + k ∧ used = a0 + k ∧ (M : Int) = mant f n a0 k)

theorem ends_short {f : Nat → Int} {n M used : Nat} {sh : Bool} (hU : UnitS f n M used sh) {k : Nat} (hk : n < k) (hk2 : k ≤ 1073) (h0 : ∀ i, i < k → i < n → f i = 0) (e K : Nat) : UnitEnds f n M used sh e k K := by
  refine ⟨fun _ => ?_, fun h => by omega⟩
  rcases hU with ⟨j, hj, hjn, h1, _, _, _, _⟩ | ⟨_, _, _, hs⟩
  · have := h0 j (by omega) hjn
    omega
  · rw [hs]; exact decide_eq_true (by omega)
theorem ends_first {f : Nat → Int} {n M used : Nat} {sh : Bool} (hU : UnitS f n M used sh) {k : Nat} (hk : k < 1073) (hkn : k < n) (h0 : ∀ i, i < k → i < n → f i = 0) (h1 : f k = 1) : UnitEnds f n M used sh (k + 1) (k + 1) (min 52 (1074 - (k + 1))) := by
  rcases hU with ⟨j, hj, hjn, hj1, hj0, hu, hs, hM⟩ | ⟨hz, _, _, _⟩
  · have e : j = k := by
      rcases Nat.lt_trichotomy j k with h | h | h
      · have := h0 j h hjn; omega
      · exact h
      · have := hj0 k h; omega
    subst e
    obtain ⟨K, hK⟩ : ∃ K, K = min 52 (1074 - (j + 1)) := ⟨_, rfl⟩
    have hu2 : used = j + 1 + K := by omega
    rw [← hK]
    refine ⟨fun h => by rw [hs]; exact decide_eq_true (by omega), fun h => ?_⟩
    have hs2 : sh = false := by rw [hs]; exact decide_eq_false (by omega)
    refine ⟨hs2, hu2, hu2, ?_⟩
    rw [hM hs2, hu2]
    exact val_mant f n j hjn h1 hj0 K
  · have := hz k hkn (by omega)
    omega
theorem ends_last {f : Nat → Int} {n M used : Nat} {sh : Bool} (hU : UnitS f n M used sh) (h0 : ∀ i, i < 1073 → i < n → f i = 0) : (n ≤ 1073 → sh = true) ∧ (1073 < n → sh = false ∧ used = 1074 ∧ (M : Int) = bitAt f n 1073) := by
  rcases hU with ⟨j, hj, hjn, hj1, hj0, hu, hs, hM⟩ | ⟨hz, hu, hM, hs⟩
  · have e : j = 1073 := by
      rcases Nat.lt_or_ge j 1073 with h | h
      · have := h0 j h hjn; omega
      · omega
    subst e
    refine ⟨fun h => by omega, fun h => ?_⟩
    have hu2 : used = 1073 + 1 + 0 := by omega
    have hs2 : sh = false := by rw [hs]; exact decide_eq_false (by omega)
    refine ⟨hs2, hu2, ?_⟩
    rw [hM hs2, hu2, val_mant f n 1073 hjn hj1 hj0 0, mant_zero]
    unfold bitAt
    rw [if_pos hjn, hj1]
  · refine ⟨fun h => by rw [hs]; exact decide_eq_true (by omega), fun h => ⟨by rw [hs]; exact decide_eq_false (by omega), hu, ?_⟩⟩
    rw [hM]
    unfold bitAt
    rw [if_pos h, hz 1073 h (by omega)]
    rfl

theorem unit_fin {f : Nat → Int} {n M used e a0 K y y' : Nat} {sh : Bool} {X : Value} (hE : UnitEnds f n M used sh e a0 K) (hv : toldS (.float .f64 0) (.float .f64 y, used, sh) n = X) (hy : ¬ n < a0 + K → y' = y) : toldS (.float .f64 0) (.float .f64 y', min (a0 + K) n, decide (n < a0 + K)) n = X := by
  refine Eq.trans ?_ hv
  by_cases h : n < a0 + K
  · rw [hE.1 h, decide_eq_true h]; rfl
  · obtain ⟨h1, _, h2, _⟩ := hE.2 h
    rw [h1, h2, decide_eq_false h, Nat.min_eq_left (by omega), hy h]
theorem told_float (t n c at_ : Nat) (A : Option Addr) (x : Nat) (s : Bool) (w : World) (h : Tape w t A n c at_ s) :
    Calls Tryd.prog 95 #[.pointer (some ⟨t, 0, none⟩), .float .f64 x] w fun e w' => e = .returned (toldS (.float .f64 0) (.float .f64 x, at_, s) n) ∧ Below w.heap.size w w' := by
  cases s
  · exact told_float_ok t n c at_ A x w h
  · exact told_float_short t n c at_ A x w h
theorem make_mant {m : Int} {M : Nat} (h : (M : Int) = m) (u : Int) : makeW (decide (m < 0)) m.natAbs u = makeW false M u := by
  subst h
  rw [decide_eq_false (by omega), Int.natAbs_natCast]
theorem mant_le (f : Nat → Int) (n a k : Nat) (hk : k ≤ 52) (hok : ∀ j, j < n → OkBit (f j)) : 0 ≤ mant f n a k ∧ mant f n a k < 9007199254740992 := by
  have h := mant_bound f n a k hok
  have hp : 2 ^ (k + 1) ≤ 2 ^ 53 := PL.pow_bound _ _ (by omega)
  refine ⟨h.1, ?_⟩
  have h2 := h.2
  rw [pow_cast] at h2
  omega

set_option maxRecDepth 100000 in
set_option maxHeartbeats 8000000 in
theorem unit_mid (n c : Nat) (A : Option Addr) (f : Nat → Int) (w : World) (hG : Glob w) (hn : n ≤ 2000) (hR : Row w A n f) (hok : ∀ j, j < n → OkBit (f j)) (M used : Nat) (sh : Bool) (hU : UnitS f n M used sh) (y : Nat) (hy : Hid (makeW false M (-(used : Int)) = y))
    (x1 : Nat) (x2 x3 x4 : Int) (hv : Hid (toldS (.float .f64 0) (.float .f64 y, used, sh) n = .tuple #[.float .f64 x1, .int .i64 x2, .agg #[.int .i64 x3, .int .i64 x4]])) :
    Calls Tryd.prog 52 #[.slice A n c] w fun e w' => e = .returned (.tuple #[.float .f64 x1, .int .i64 x2, .agg #[.int .i64 x3, .int .i64 x4]]) ∧ Below w.heap.size w w' := by
  have HR := Lib.hid hR
  have HG := Lib.hid hG
  have HO := Lib.hid hok
  have HU := Lib.hid hU
  clear hR hG hok hU
  go_enter Tryd.func52, Tryd.ntmps52
  go_wp2_with fail
  have H0 := Lib.hid (Held.new w)
  refine (check_ok n c A f _ hn (HR.out.below ((Below.refl _ _).alloc (Nat.le_refl _) _)) HO.out).mono ?_
  rintro e w1 ⟨rfl, hb1⟩
  have H1 := Lib.hid (H0.out.below hb1)
  have HR1 := Lib.hid ((HR.out.below ((Below.refl _ _).alloc (Nat.le_refl _) _)).below hb1)
  clear hb1 H0
  have hz : w.heap.size < w1.heap.size := H1.out.sz
  go_wp2_with fail
  have HT : Tape ((w1.alloc (Obj.cells #[Value.int IntKind.i64 0, Value.int IntKind.i64 0] 26)).alloc (Obj.cells #[Value.slice A n c, Value.int IntKind.i64 0, Value.bool false] 85)) (w1.heap.size + 1) A n c 0 false := Whole.new _ _ _ _ (by simp)
  have HR2 := Lib.hid ((HR1.out.below ((Below.refl _ _).alloc (Nat.le_refl _) (Obj.cells #[Value.int IntKind.i64 0, Value.int IntKind.i64 0] 26))).below ((Below.refl _ _).alloc (Nat.le_refl _) (Obj.cells #[Value.slice A n c, Value.int IntKind.i64 0, Value.bool false] 85)))
  have H2 := Lib.hid ((H1.out.alloc (Obj.cells #[Value.int IntKind.i64 0, Value.int IntKind.i64 0] 26)).alloc (Obj.cells #[Value.slice A n c, Value.int IntKind.i64 0, Value.bool false] 85))
  have hA : Apart A n (w1.heap.size + 1) := HR1.out.apart (by omega)
  have HA := Lib.hid hA
  have HTT := Lib.hid (To.refl HT)
  clear HT hA H1 HR HR1
  generalize (w1.alloc (Obj.cells #[Value.int IntKind.i64 0, Value.int IntKind.i64 0] 26)).alloc (Obj.cells #[Value.slice A n c, Value.int IntKind.i64 0, Value.bool false] 85) = w2 at *
  have ht : w.heap.size < w1.heap.size + 1 := by omega
  generalize w1.heap.size + 1 = t at *
  go_loopg [7] 1073 (fun gk v7 wr => ∃ k : Nat, gk + k = 1073 ∧ v7 = .int .i64 ((k + 1 : Nat) : Int) ∧ (∀ i, i < k → i < n → f i = 0) ∧ To w2 wr t A n c (min k n) (decide (n < k)))
  case atStart => exact ⟨0, rfl, rfl, fun i h => by omega, by rw [Nat.min_eq_left (Nat.zero_le _), decide_eq_false (by omega)]; exact HTT.out⟩
  case round =>
    clear HTT
    obtain ⟨k, hgk, rfl, hzero, hTo⟩ := hrel
    have HZERO := Lib.hid hzero
    have HTz := Lib.hid hTo
    clear hzero hTo
    by_cases hs : n < k
    · obtain ⟨KK, hKK1, hKK2, HKK⟩ : ∃ K, K ≤ 52 ∧ k + 1 + K ≤ 1074 ∧ Hid (K = min 52 (1074 - (k + 1))) := ⟨min 52 (1074 - (k + 1)), by omega, by omega, rfl⟩
      have HEN := Lib.hid (ends_short HU.out hs (by omega) HZERO.out (k + 1) KK)
      have hc2 : wr.cell? ⟨t, 2, none⟩ = some (.bool true) := by have := HTz.out.1.cell 2; rw [decide_eq_true hs] at this; exact this
      have hc1 : wr.cell? ⟨t, 1, none⟩ = some (.int .i64 (n : Nat)) := by have := HTz.out.1.cell 1; rw [Nat.min_eq_right (by omega)] at this; exact this
      have z1 : ((n : Int) == 1073) = false := by simp; omega
      clear HU HZERO
      have hk2 : (k < 1073 ∧ ((k : Int) + 1 == 1074) = false) ∨ (1073 ≤ k ∧ ((k : Int) + 1 == 1074) = true) := by
        rcases Nat.lt_or_ge k 1073 with h | h
        · exact .inl ⟨h, by simp; omega⟩
        · exact .inr ⟨h, by simp; omega⟩
      rcases hk2 with ⟨hk, hk2⟩ | ⟨hk, hk2⟩
      · go_wp2_with fail
        all_goals first | (exfalso; omega) | skip
        clear hc1 hc2 z1 hk2
        go_loopg [7, 9, 10] KK (fun gk v7 v9 v10 wr => ∃ s : Nat, gk + s = KK ∧ v7 = .int .i64 ((k + 1 + s : Nat) : Int) ∧ v9 = .int .i64 (mant f n k s) ∧ v10 = .int .i64 (s : Nat) ∧ To w2 wr t A n c (min (k + s) n) (decide (n < k + s)))
        case atStart => exact ⟨0, by omega, rfl, by rw [mant_zero], rfl, HTz.out⟩
        case round =>
          clear HTz
        
          obtain ⟨s, hgs, rfl, rfl, rfl, hTo⟩ := hrel
          have HTo := Lib.hid hTo
          clear hTo
          have hm := mant_le f n k s (by omega) HO.out
          by_cases hlt : s < KK
          · obtain ⟨gs, rfl⟩ : ∃ g', gk = g' + 1 := ⟨gk - 1, by omega⟩
            have C := Lib.hid (nextb_any t n c (min (k + s) n) A f (decide (n < k + s)) wr HTo.out.1 (HR2.out.grown HTo.out.2 HA.out) HA.out (by omega) (by intro h; have := of_decide_eq_true h; omega) (by omega) (bitAt f n (k + s)) (bitAt_min f n (k + s)) (min (k + (s + 1)) n) (by show _ = _; omega) (decide (n < k + (s + 1))) (by show _ = _; rw [decide_eq_decide]; omega))
            have hob := bitAt_ok f n (k + s) HO.out
            have hor := or_bit (mant f n k s) (bitAt f n (k + s)) hm.1 (by omega) hob
            rw [← mant_succ] at hor
            generalize hm2 : mant f n k (s + 1) = m2 at *
            have HM2 := Lib.hid hm2
            clear hm2 hob
            generalize mant f n k s = m at *
            generalize bitAt f n (k + s) = x at *
            have g1 : (s : Int) < 52 := by omega
            have g2 : ((k : Int) + 1 : Int) + s < 1074 := by omega
            clear hKK1 hKK2
            go_wp2_with (go_at_call 94; refine C.out.mono ?_; rintro e w3 ⟨rfl, hT3⟩)
            all_goals first | (exfalso; omega) | skip
            go_roundg gs
            case measure => omega
            case rel => exact ⟨s + 1, by omega, by go_num, by rw [HM2.out], by go_num, HTo.out.trans hT3⟩
          · obtain rfl : s = KK := by omega
            have H3 := Lib.hid (H2.out.grown HTo.out.2 ht)
            have HG3 := HG.out.below H3.out.be
            have hyy : ¬ n < k + s → makeW (decide (mant f n k s < 0)) (mant f n k s).natAbs (-((k + 1 + s : Nat) : Int)) = y := fun h => by
              obtain ⟨_, hu, _, hM⟩ := HEN.out.2 h
              rw [make_mant hM, ← hy.out, hu]
            have HYY := Lib.hid hyy
            clear hyy
            have b1 : ((k : Int) + 1 : Int) + s ≤ 1074 := by omega
            have hor : (¬ (s : Int) < 52) ∨ ((s : Int) < 52 ∧ ¬ ((k : Int) + 1 : Int) + s < 1074) := by have := HKK.out; omega
            clear hKK1 hKK2 hgs hlt
            rcases hor with h52 | ⟨h52, h74⟩
            all_goals
              go_wp2_with fail
              refine (make_any (mant f n k s) (-(((k : Int) + 1 : Int) + s)) (by omega) (by omega) wr HG3.g0 HG3.g1 HG3.sz).mono ?_
              have hyy : ¬ n < k + s → makeW (decide (mant f n k s < 0)) (mant f n k s).natAbs (-(((k : Int) + 1 : Int) + s)) = y := fun h => by
                rw [← HYY.out h]
                congr 1
              generalize makeW (decide (mant f n k s < 0)) (mant f n k s).natAbs (-(((k : Int) + 1 : Int) + s)) = y' at *
              have FIN := unit_fin HEN.out hv.out hyy
              rintro e w4 ⟨rfl, hb4⟩
              have HT4 := Lib.hid (HTo.out.1.below hb4 HTo.out.1.lt)
              have H4 := Lib.hid (H3.out.below hb4)
              clear hb4 HG3 H3 hyy HTo
              go_wp2_with fail
              refine (told_float t n c _ A y' _ w4 HT4.out).mono ?_
              rw [FIN]
              rintro e w5 ⟨rfl, hb5⟩
              have H5 := Lib.hid (H4.out.below hb5)
              obtain ⟨c0, c1, f0, f1, sz, be⟩ := H5.out
              clear hb5 be H4
              go_wp2_with fail
              exact bodyPost_ret (v := .tuple #[.float .f64 x1, .int .i64 x2, .agg #[.int .i64 x3, .int .i64 x4]]) (by simp [results, Tryd.results52, go_sem, c0, c1]) rfl ⟨rfl, (H5.out.be.setCell (Nat.le_refl _) _).setCell (Nat.le_refl _) _⟩
      · obtain rfl : k = 1073 := by omega
        obtain rfl : KK = 0 := by omega
        clear HKK hKK1 hKK2
        go_wp2_with fail
        clear hc1 hc2 z1 hk2
        go_loopg [7, 9, 10] 0 (fun gk v7 v9 v10 wr => v7 = .int .i64 1074 ∧ v9 = .int .i64 1 ∧ v10 = .int .i64 0 ∧ To w2 wr t A n c (min (1073 + 0) n) (decide (n < 1073 + 0)))
        case atStart => exact ⟨rfl, rfl, rfl, HTz.out⟩
        case round =>
          clear HTz
          obtain ⟨rfl, rfl, rfl, hTo⟩ := hrel
          have HTo := Lib.hid hTo
          clear hTo
          have H3 := Lib.hid (H2.out.grown HTo.out.2 ht)
          have HG3 := HG.out.below H3.out.be
          go_wp2_with fail
          refine (make_any 1 (-1074) (by omega) (by omega) wr HG3.g0 HG3.g1 HG3.sz).mono ?_
          have hyy : ¬ n < 1073 + 0 → makeW (decide ((1 : Int) < 0)) (1 : Int).natAbs (-1074) = y := fun h => by omega
          generalize makeW (decide ((1 : Int) < 0)) (1 : Int).natAbs (-1074) = y' at *
          have FIN := unit_fin HEN.out hv.out hyy
          rintro e w4 ⟨rfl, hb4⟩
          have HT4 := Lib.hid (HTo.out.1.below hb4 HTo.out.1.lt)
          have H4 := Lib.hid (H3.out.below hb4)
          clear hb4 HG3 H3 hyy HTo
          go_wp2_with fail
          refine (told_float t n c _ A y' _ w4 HT4.out).mono ?_
          rw [FIN]
          rintro e w5 ⟨rfl, hb5⟩
          have H5 := Lib.hid (H4.out.below hb5)
          obtain ⟨c0, c1, f0, f1, sz, be⟩ := H5.out
          clear hb5 be H4
          go_wp2_with fail
          exact bodyPost_ret (v := .tuple #[.float .f64 x1, .int .i64 x2, .agg #[.int .i64 x3, .int .i64 x4]]) (by simp [results, Tryd.results52, go_sem, c0, c1]) rfl ⟨rfl, (H5.out.be.setCell (Nat.le_refl _) _).setCell (Nat.le_refl _) _⟩
    · have hc2 : wr.cell? ⟨t, 2, none⟩ = some (.bool false) := by have := HTz.out.1.cell 2; rw [decide_eq_false hs] at this; exact this
      have C := Lib.hid (nextb_any t n c (min k n) A f (decide (n < k)) wr HTz.out.1 (HR2.out.grown HTz.out.2 HA.out) HA.out (by omega) (fun h => absurd (of_decide_eq_true h) hs) (by omega) (bitAt f n k) (bitAt_min f n k) (min (k + 1) n) (by show _ = _; omega) (decide (n < k + 1)) (by show _ = _; rw [decide_eq_decide]; omega))
      have hob := bitAt_ok f n k HO.out
      have hb0 : bitAt f n k = 0 → ∀ i, i < k + 1 → i < n → f i = 0 := fun hb i hi hin => by
        by_cases e : i = k
        · subst e
          unfold bitAt at hb
          rw [if_pos hin] at hb
          exact hb
        · exact HZERO.out i (by omega) hin
      have hb1 : bitAt f n k = 1 → k < n ∧ f k = 1 := fun hb => by
        unfold bitAt at hb
        by_cases h : k < n
        · rw [if_pos h] at hb; exact ⟨h, hb⟩
        · rw [if_neg h] at hb; omega
      have HB0 := Lib.hid hb0
      have HB1 := Lib.hid hb1
      clear hb0 hb1
      by_cases hk : k < 1073
      · obtain ⟨gk, rfl⟩ : ∃ g', gk = g' + 1 := ⟨gk - 1, by omega⟩
        generalize bitAt f n k = x at *
        rcases hob with rfl | rfl
        · have hz0 := HB0.out rfl
          have HZ0 := Lib.hid hz0
          clear hz0 HB0 HB1
          go_wp2_with (go_at_call 94; refine C.out.mono ?_; rintro e w3 ⟨rfl, hT3⟩)
          go_roundg gk
          case measure => omega
          case rel => exact ⟨k + 1, by omega, by go_num, HZ0.out, HTz.out.trans hT3⟩
        · obtain ⟨hkn, h1⟩ := HB1.out rfl
          obtain ⟨KK, hKK1, hKK2, HKK⟩ : ∃ K, K ≤ 52 ∧ k + 1 + K ≤ 1074 ∧ Hid (K = min 52 (1074 - (k + 1))) := ⟨min 52 (1074 - (k + 1)), by omega, by omega, rfl⟩
          have HEN := Lib.hid (ends_first HU.out hk hkn HZERO.out h1)
          rw [← HKK.out] at HEN
          have z2 : ((k : Int) + 1 == 1074) = false := by simp; omega
          clear HB0 HB1 HU HZERO h1
          go_wp2_with (go_at_call 94; refine C.out.mono ?_; rintro e wz ⟨rfl, hT3⟩)
          have HTz := Lib.hid (HTz.out.trans hT3)
          clear C hc2 hT3
          all_goals first | (exfalso; omega) | skip
          clear z2
          go_loopg [7, 9, 10] KK (fun gk v7 v9 v10 wr => ∃ s : Nat, gk + s = KK ∧ v7 = .int .i64 ((k + 1 + s : Nat) : Int) ∧ v9 = .int .i64 (mant f n (k+1) s) ∧ v10 = .int .i64 (s : Nat) ∧ To w2 wr t A n c (min ((k+1) + s) n) (decide (n < (k+1) + s)))
          case atStart => exact ⟨0, by omega, rfl, by rw [mant_zero], rfl, HTz.out⟩
          case round =>
            clear HTz
          
            obtain ⟨s, hgs, rfl, rfl, rfl, hTo⟩ := hrel
            have HTo := Lib.hid hTo
            clear hTo
            have hm := mant_le f n (k+1) s (by omega) HO.out
            by_cases hlt : s < KK
            · obtain ⟨gs, rfl⟩ : ∃ g', gk = g' + 1 := ⟨gk - 1, by omega⟩
              have C := Lib.hid (nextb_any t n c (min ((k+1) + s) n) A f (decide (n < (k+1) + s)) wr HTo.out.1 (HR2.out.grown HTo.out.2 HA.out) HA.out (by omega) (by intro h; have := of_decide_eq_true h; omega) (by omega) (bitAt f n ((k+1) + s)) (bitAt_min f n ((k+1) + s)) (min ((k+1) + (s + 1)) n) (by show _ = _; omega) (decide (n < (k+1) + (s + 1))) (by show _ = _; rw [decide_eq_decide]; omega))
              have hob := bitAt_ok f n ((k+1) + s) HO.out
              have hor := or_bit (mant f n (k+1) s) (bitAt f n ((k+1) + s)) hm.1 (by omega) hob
              rw [← mant_succ] at hor
              generalize hm2 : mant f n (k+1) (s + 1) = m2 at *
              have HM2 := Lib.hid hm2
              clear hm2 hob
              generalize mant f n (k+1) s = m at *
              generalize bitAt f n ((k+1) + s) = x at *
              have g1 : (s : Int) < 52 := by omega
              have g2 : ((k : Int) + 1 : Int) + s < 1074 := by omega
              clear hKK1 hKK2
              go_wp2_with (go_at_call 94; refine C.out.mono ?_; rintro e w3 ⟨rfl, hT3⟩)
              all_goals first | (exfalso; omega) | skip
              go_roundg gs
              case measure => omega
              case rel => exact ⟨s + 1, by omega, by go_num, by rw [HM2.out], by go_num, HTo.out.trans hT3⟩
            · obtain rfl : s = KK := by omega
              have H3 := Lib.hid (H2.out.grown HTo.out.2 ht)
              have HG3 := HG.out.below H3.out.be
              have hyy : ¬ n < (k+1) + s → makeW (decide (mant f n (k+1) s < 0)) (mant f n (k+1) s).natAbs (-((k + 1 + s : Nat) : Int)) = y := fun h => by
                obtain ⟨_, hu, _, hM⟩ := HEN.out.2 h
                rw [make_mant hM, ← hy.out, hu]
              have HYY := Lib.hid hyy
              clear hyy
              have b1 : ((k : Int) + 1 : Int) + s ≤ 1074 := by omega
              have hor : (¬ (s : Int) < 52) ∨ ((s : Int) < 52 ∧ ¬ ((k : Int) + 1 : Int) + s < 1074) := by have := HKK.out; omega
              clear hKK1 hKK2 hgs hlt
              rcases hor with h52 | ⟨h52, h74⟩
              all_goals
                go_wp2_with fail
                refine (make_any (mant f n (k+1) s) (-(((k : Int) + 1 : Int) + s)) (by omega) (by omega) wr HG3.g0 HG3.g1 HG3.sz).mono ?_
                have hyy : ¬ n < (k+1) + s → makeW (decide (mant f n (k+1) s < 0)) (mant f n (k+1) s).natAbs (-(((k : Int) + 1 : Int) + s)) = y := fun h => by
                  rw [← HYY.out h]
                  congr 1
                generalize makeW (decide (mant f n (k+1) s < 0)) (mant f n (k+1) s).natAbs (-(((k : Int) + 1 : Int) + s)) = y' at *
                have FIN := unit_fin HEN.out hv.out hyy
                rintro e w4 ⟨rfl, hb4⟩
                have HT4 := Lib.hid (HTo.out.1.below hb4 HTo.out.1.lt)
                have H4 := Lib.hid (H3.out.below hb4)
                clear hb4 HG3 H3 hyy HTo
                go_wp2_with fail
                refine (told_float t n c _ A y' _ w4 HT4.out).mono ?_
                rw [FIN]
                rintro e w5 ⟨rfl, hb5⟩
                have H5 := Lib.hid (H4.out.below hb5)
                obtain ⟨c0, c1, f0, f1, sz, be⟩ := H5.out
                clear hb5 be H4
                go_wp2_with fail
                exact bodyPost_ret (v := .tuple #[.float .f64 x1, .int .i64 x2, .agg #[.int .i64 x3, .int .i64 x4]]) (by simp [results, Tryd.results52, go_sem, c0, c1]) rfl ⟨rfl, (H5.out.be.setCell (Nat.le_refl _) _).setCell (Nat.le_refl _) _⟩
      · obtain rfl : k = 1073 := by omega
        have hc1 : wr.cell? ⟨t, 1, none⟩ = some (.int .i64 1073) := by have := HTz.out.1.cell 1; rw [Nat.min_eq_left (by omega)] at this; exact this
        have HEN := Lib.hid (ends_last HU.out HZERO.out)
        clear HB0 HB1 HU HZERO
        generalize bitAt f n 1073 = x at *
        go_wp2_with (go_at_call 94; refine C.out.mono ?_; rintro e wz ⟨rfl, hT3⟩)
        have H3 := Lib.hid ((H2.out.grown HTz.out.2 ht).grown hT3.2 ht)
        have HG3 := HG.out.below H3.out.be
        have hx1 : 0 ≤ x ∧ x ≤ 1 := by rcases hob with rfl | rfl <;> omega
        refine (make_any x (-1074) (by omega) (by omega) wz HG3.g0 HG3.g1 HG3.sz).mono ?_
        have hyy : 1073 < n → makeW (decide (x < 0)) x.natAbs (-1074) = y := fun h => by
          obtain ⟨_, hu, hM⟩ := HEN.out.2 h
          rw [make_mant hM, ← hy.out, hu]
          rfl
        generalize makeW (decide (x < 0)) x.natAbs (-1074) = y' at *
        rintro e w4 ⟨rfl, hb4⟩
        have HT4 := Lib.hid (hT3.1.below hb4 hT3.1.lt)
        have H4 := Lib.hid (H3.out.below hb4)
        have FIN : toldS (.float .f64 0) (.float .f64 y', min (1073 + 1) n, decide (n < 1073 + 1)) n = .tuple #[.float .f64 x1, .int .i64 x2, .agg #[.int .i64 x3, .int .i64 x4]] := by
          refine Eq.trans ?_ hv.out
          by_cases h : n ≤ 1073
          · rw [HEN.out.1 h, decide_eq_true (by omega)]; rfl
          · obtain ⟨h1, h2, _⟩ := HEN.out.2 (by omega)
            rw [h1, h2, decide_eq_false (by omega), Nat.min_eq_left (by omega), hyy (by omega)]
        clear hb4 HG3 H3 hT3 hyy C HTz hc1 hc2
        go_wp2_with fail
        refine (told_float t n c _ A y' _ w4 HT4.out).mono ?_
        rw [FIN]
        rintro e w5 ⟨rfl, hb5⟩
        have H5 := Lib.hid (H4.out.below hb5)
        obtain ⟨c0, c1, f0, f1, sz, be⟩ := H5.out
        clear hb5 be H4
        go_wp2_with fail
        exact bodyPost_ret (v := .tuple #[.float .f64 x1, .int .i64 x2, .agg #[.int .i64 x3, .int .i64 x4]]) (by simp [results, Tryd.results52, go_sem, c0, c1]) rfl ⟨rfl, (H5.out.be.setCell (Nat.le_refl _) _).setCell (Nat.le_refl _) _⟩
end Go.Proofs.YtjjfkidddjcdcaaDoor
