/- Proved here: contracts of package chance's pick and Pick at this program. Conditions: as each theorem says.
   Proved here: the contract of the program's pick from any place of the tape on. Conditions: as each theorem says. -/
import Derived.Test.YtjjfkidddjcdcaaDoorFlip
namespace Go.Proofs.YtjjfkidddjcdcaaDoor
open Go.ChangeShapes Go.WideShapes Go.ChangeAt Go.RowKit

/-- the bit at a place; nought behind the last -/
def bitAt (f : Nat → Int) (n a : Nat) : Int := if a < n then f a else 0
/-- the number that j bits from place a on make -/
def val (f : Nat → Int) (n a : Nat) : Nat → Int
  | 0 => 0
  | j + 1 => 2 * val f n a j + bitAt f n (a + j)

theorem bitAt_ok (f : Nat → Int) (n a : Nat) (hok : ∀ j, j < n → OkBit (f j)) : OkBit (bitAt f n a) := by
  unfold bitAt
  split
  · exact hok _ ‹_›
  · exact .inl rfl

theorem val_bound (f : Nat → Int) (n a : Nat) (hok : ∀ j, j < n → OkBit (f j)) : ∀ j, 0 ≤ val f n a j ∧ val f n a j < 2 ^ j
  | 0 => by simp [val]
  | j + 1 => by
    have h := val_bound f n a hok j
    have hb := bitAt_ok f n (a + j) hok
    unfold val
    rw [Int.pow_succ]
    rcases hb with e | e <;> rw [e] <;> omega

theorem nextb_any (t n c a : Nat) (A : Option Addr) (f : Nat → Int) (s : Bool) (w : World) (h : Tape w t A n c a s) (hR : Row w A n f) (hA : Apart A n t) (ha : a ≤ n) (hs : s = true → a = n) (hn : n ≤ 1000000)
    (x : Int) (hx : Hid (bitAt f n a = x)) (a2 : Nat) (ha2 : Hid (a2 = min (a + 1) n)) (s2 : Bool) (hs2 : Hid (s2 = decide (n ≤ a))) :
    Calls Tryd.prog 94 #[.pointer (some ⟨t, 0, none⟩)] w fun e w' => e = .returned (.int .i64 x) ∧ To w w' t A n c a2 s2 := by
  have hx' := hx.out
  have hb' := ha2.out
  have hc' := hs2.out
  unfold bitAt at hx'
  by_cases hlt : a < n
  · have hs' : s = false := by cases s; rfl; exact absurd (hs rfl) (by omega)
    subst hs'
    rw [if_pos hlt] at hx'
    rw [decide_eq_false (by omega)] at hc'
    have e : a2 = a + 1 := by omega
    subst hx' hc' e
    exact next_bit t n c a A f w h hR hA hlt hn
  · rw [if_neg hlt] at hx'
    rw [decide_eq_true (by omega)] at hc'
    have e : a2 = a := by omega
    subst hx' hc' e
    exact next_end t n c _ A s w h (by omega)

theorem or_bit (x b : Int) (hx : 0 ≤ x) (hx2 : x < 1152921504606846976) (hb : OkBit b) : bits .or .i64 (x * 2) b = 2 * x + b := by
  obtain ⟨X, rfl⟩ : ∃ X : Nat, x = X := ⟨x.toNat, by omega⟩
  obtain ⟨B, rfl⟩ : ∃ B : Nat, b = B := ⟨b.toNat, by rcases hb with e | e <;> omega⟩
  have hB : B < 2 := by rcases hb with e | e <;> omega
  have hz : X * 2 ||| B < 2 ^ 63 := Nat.or_lt_two_pow (by omega) (by omega)
  have e1 : ((X : Int) * 2) = ((X * 2 : Nat) : Int) := by omega
  rw [e1]
  show IntKind.i64.wrap ((BitVec.ofInt 64 ((X * 2 : Nat) : Int) ||| BitVec.ofInt 64 (B : Int)).toNat : Int) = _
  have o1 : (BitVec.ofInt 64 ((X * 2 : Nat) : Int)).toNat = X * 2 := by rw [BitVec.ofInt_natCast, BitVec.toNat_ofNat]; exact Nat.mod_eq_of_lt (by omega)
  have o2 : (BitVec.ofInt 64 (B : Int)).toNat = B := by rw [BitVec.ofInt_natCast, BitVec.toNat_ofNat]; exact Nat.mod_eq_of_lt (by omega)
  rw [BitVec.toNat_or, o1, o2, nat_join 1 (X * 2) B (Nat.mul_mod_left _ _) (by omega), IntKind.wrap_i64]
  omega

theorem wrap64_two (k : Nat) (h : k ≤ 20) : wrap64 (2 ^ k) = (2 : Int) ^ k := by
  have h1 : 2 ^ k ≤ 2 ^ 20 := PL.pow_bound _ _ h
  rw [pow_cast]
  unfold wrap64
  generalize 2 ^ k = p at *
  omega

/-- How a pick of N goes on bits, S at a time; the first number says how many rounds may come. -/
def pickS (f : Nat → Int) (n S : Nat) (N : Int) : Nat → Nat → Int × Nat × Bool
  | 0, _ => (0, n, true)
  | g + 1, a => if val f n a S < N then (val f n a S, min (a + S) n, decide (n < a + S)) else if n < a + S then (0, n, true) else pickS f n S N g (a + S)

def PickRel (f : Nat → Int) (N : Int) (S : Nat) (res : Int × Nat × Bool) (w : World) (t : Nat) (A : Option Addr) (n c gk : Nat) (wr : World) : Prop :=
  (∃ g a : Nat, gk = g + 1 ∧ a ≤ n ∧ n < a + g ∧ pickS f n S N g a = res ∧ To w wr t A n c a false) ∨ (gk = 0 ∧ res = (0, n, true) ∧ To w wr t A n c n true)

def ReadRel (f : Nat → Int) (S a : Nat) (w : World) (t : Nat) (A : Option Addr) (n c gk : Nat) (v6 v19 : Value) (wr : World) : Prop :=
  ∃ j : Nat, gk + j = S ∧ v6 = .int .i64 (val f n a j) ∧ v19 = .int .i64 j ∧ To w wr t A n c (min (a + j) n) (decide (n < a + j))

theorem bitAt_min (f : Nat → Int) (n m : Nat) : Hid (bitAt f n (min m n) = bitAt f n m) := by
  unfold Hid bitAt
  by_cases h : m < n
  · rw [Nat.min_eq_left (by omega)]
  · rw [Nat.min_eq_right (by omega), if_neg (by omega), if_neg h]

theorem read_start {w wr : World} {t n c a : Nat} {A : Option Addr} (ha : a ≤ n) (h : To w wr t A n c a false) : To w wr t A n c (min (a + 0) n) (decide (n < a + 0)) := by
  rw [Nat.add_zero, Nat.min_eq_left ha, decide_eq_false (by omega)]
  exact h

theorem read_step {f : Nat → Int} {S a j gk : Nat} {w wr : World} {t n c : Nat} {A : Option Addr} {V2 : Int} (hv : val f n a (j + 1) = V2) (hj : gk + (j + 1) = S) (h : To w wr t A n c (min (a + (j + 1)) n) (decide (n < a + (j + 1)))) :
    ReadRel f S a w t A n c gk (.int .i64 V2) (.int .i64 ((j : Int) + 1)) wr := ⟨j + 1, hj, by rw [hv], by go_num, h⟩

theorem pick_pos (f : Nat → Int) (n a j : Nat) (N : Int) (hN : 1 ≤ N) (hv : val f n a j < 2 ^ j) (h : N ≤ val f n a j) : 1 ≤ j := by
  rcases j with _ | j
  · simp [val] at h; omega
  · omega

theorem pick_short {w wr : World} {t n c m : Nat} {A : Option Addr} (hs : n < m) (h : To w wr t A n c (min m n) (decide (n < m))) : To w wr t A n c n true := by
  rw [Nat.min_eq_right (by omega), decide_eq_true hs] at h
  exact h
theorem pick_on {w wr : World} {t n c m : Nat} {A : Option Addr} (hs : ¬ n < m) (h : To w wr t A n c (min m n) (decide (n < m))) : To w wr t A n c m false := by
  rw [Nat.min_eq_left (by omega), decide_eq_false hs] at h
  exact h

set_option maxHeartbeats 1000000 in
theorem pick_any (t n c : Nat) (A : Option Addr) (f : Nat → Int) (N : Int) (S : Nat) (hn : n ≤ 1000000) (hN : 1 ≤ N) (_hN2 : N ≤ 1000000) (hS : S ≤ 20) (hS1 : Hid (∀ j, j < S → (2 : Int) ^ j < N)) (hS2 : Hid (N ≤ (2 : Int) ^ S))
    (w : World) (hT : Tape w t A n c 0 false) (hR : Row w A n f) (hok : ∀ j, j < n → OkBit (f j)) (hA : Apart A n t) (res : Int × Nat × Bool) (hres : Hid (pickS f n S N (n + 1) 0 = res)) :
    Calls Tryd.prog 59 #[.pointer (some ⟨t, 0, none⟩), .int .i64 N] w fun e w' => e = .returned (.int .i64 res.1) ∧ To w w' t A n c res.2.1 res.2.2 := by
  have HS : PickRel f N S res w t A n c (n + 2) w := .inl ⟨n + 1, 0, rfl, by omega, by omega, hres.out, To.refl hT⟩
  have HR := Lib.hid hR
  have HO := Lib.hid hok
  have HA := Lib.hid hA
  have HSS := Lib.hid HS
  clear hT hR hA hres HS hok
  go_enter Tryd.func59, Tryd.ntmps59
  go_wp2_with fail
  go_loop [5] (fun v5 => ∃ k : Nat, k ≤ S ∧ v5 = .int .i64 k) (fun v5 => (S - (intOf v5).toNat))
  case atStart => exact ⟨0, by omega, rfl⟩
  case round =>
    obtain ⟨k, hk, rfl⟩ := hrel
    by_cases hlt : k < S
    · obtain ⟨T, hT⟩ : ∃ T : Int, (2 : Int) ^ k = T := ⟨_, rfl⟩
      have h2 := hS1.out k hlt
      have h1 := (wrap64_two k (by omega)).trans hT
      rw [hT] at h2
      have HT := Lib.hid hT
      clear hT
      go_wp2_with fail
      go_round
      case rel => exact ⟨k + 1, by omega, by go_num⟩
      case measure => simp [intOf]; omega
    · obtain rfl : k = S := by omega
      obtain ⟨T, hT⟩ : ∃ T : Int, (2 : Int) ^ k = T := ⟨_, rfl⟩
      have h2 := hS2.out
      have h1 := (wrap64_two k (by omega)).trans hT
      rw [hT] at h2
      have HT := Lib.hid hT
      clear hT
      go_wp2_with fail
      clear h1 h2
      go_loopg [6] (n + 2) (fun gk v6 wr => PickRel f N k res w t A n c gk wr)
      case atStart => exact HSS.out
      case round =>
        clear HSS
        rcases hrel with ⟨g, a, rfl, ha, hg, hres, hTo⟩ | ⟨rfl, hres, hTo⟩
        · have hc2 : wr.cell? ⟨t, 2, none⟩ = some (.bool false) := hTo.1.cell 2
          have HTo := Lib.hid hTo
          have HRES := Lib.hid hres
          clear hTo hres
          go_wp2_with fail
          obtain ⟨wo, hwo⟩ : ∃ wo : World, wo = wr := ⟨_, rfl⟩
          go_loopg [6, 19] k (fun gk v6 v19 wr2 => ReadRel f k a w t A n c gk v6 v19 wr2)
          case atStart => exact ⟨0, by omega, rfl, rfl, read_start ha HTo.out⟩
          case round =>
            obtain ⟨j, hj, rfl, rfl, hTo⟩ := hrel
            have hvb := val_bound f n a HO.out j
            by_cases hlt : j < k
            · obtain ⟨gk, rfl⟩ : ∃ g', gk = g' + 1 := ⟨gk - 1, by omega⟩
              have C := Lib.hid (nextb_any t n c (min (a + j) n) A f (decide (n < a + j)) wr hTo.1 (HR.out.grown hTo.2 HA.out) HA.out (by omega) (by intro h; have := of_decide_eq_true h; omega) hn (bitAt f n (a + j)) (bitAt_min f n (a + j)) (min (a + (j + 1)) n) (by show _ = _; omega) (decide (n < a + (j + 1))) (by show _ = _; rw [decide_eq_decide]; omega))
              have hob := bitAt_ok f n (a + j) HO.out
              have hv2 : val f n a (j + 1) = 2 * val f n a j + bitAt f n (a + j) := rfl
              have hpow : (2 : Int) ^ j ≤ 2 ^ 20 := by
                have := PL.pow_bound j 20 (by omega)
                rw [pow_cast, pow_cast]
                omega
              have hvb2 : val f n a j < 1048576 := by omega
              have hor := or_bit (val f n a j) (bitAt f n (a + j)) hvb.1 (by omega) hob
              rw [← hv2] at hor
              have hvb1 := hvb.1
              have HTo2 := Lib.hid hTo
              clear hTo hv2 hpow hvb hob
              generalize hV2 : val f n a (j + 1) = V2 at *
              have HV2 := Lib.hid hV2
              clear hV2
              generalize val f n a j = V at *
              generalize bitAt f n (a + j) = x at *
              go_wp2_with (go_at_call 94; refine C.out.mono ?_; rintro e w2 ⟨rfl, hT2⟩)
              go_roundg gk
              case measure => omega
              case rel => exact read_step HV2.out (by omega) (HTo2.out.trans hT2)
            · obtain rfl : j = k := by omega
              have HTo2 := Lib.hid hTo
              have hres := HRES.out
              have hjpos := fun (h : N ≤ val f n a j) => pick_pos f n a j N hN hvb.2 h
              have hvb1 := hvb.1
              obtain ⟨g', rfl⟩ : ∃ g', g = g' + 1 := ⟨g - 1, by omega⟩
              unfold pickS at hres
              clear hTo HRES hvb
              by_cases hv : val f n a j < N
              · rw [if_pos hv] at hres
                clear hjpos
                generalize val f n a j = V at *
                subst hres
                go_wp2_with fail
                go_ret
                exact ⟨rfl, HTo2.out⟩
              · rw [if_neg hv] at hres
                have hj1 := hjpos (by omega)
                clear hjpos
                by_cases hs : n < a + j
                · rw [if_pos hs] at hres
                  generalize val f n a j = V at *
                  go_wp2_with fail
                  go_roundg 0
                  case measure => omega
                  case rel => exact .inr ⟨rfl, hres.symm, pick_short hs HTo2.out⟩
                · rw [if_neg hs] at hres
                  have HRES2 := Lib.hid hres
                  clear hres
                  generalize val f n a j = V at *
                  go_wp2_with fail
                  go_roundg (g' + 1)
                  case measure => omega
                  case rel => exact .inl ⟨g', a + j, rfl, by omega, by omega, HRES2.out, pick_on hs HTo2.out⟩
        · have hc2 : wr.cell? ⟨t, 2, none⟩ = some (.bool true) := hTo.1.cell 2
          have HTo := Lib.hid hTo
          subst hres
          clear hTo
          go_wp2_with fail
          go_ret
          exact ⟨rfl, HTo.out⟩

theorem told_int (t n c at_ : Nat) (A : Option Addr) (x : Int) (s : Bool) (w : World) (h : Tape w t A n c at_ s) :
    Calls Tryd.prog 58 #[.pointer (some ⟨t, 0, none⟩), .int .i64 x] w fun e w' => e = .returned (toldS (.int .i64 0) (.int .i64 x, at_, s) n) ∧ Below w.heap.size w w' := by
  cases s
  · exact told_int_ok t n c at_ A x w h
  · exact told_int_short t n c at_ A x w h

set_option maxHeartbeats 1000000 in
theorem pick_mid (N : Int) (S n c : Nat) (A : Option Addr) (f : Nat → Int) (w : World) (hn : n ≤ 2000) (hR : Row w A n f) (hok : ∀ j, j < n → OkBit (f j)) (hN : 1 ≤ N) (hN2 : N ≤ 1000000) (hS : S ≤ 20) (hS1 : Hid (∀ j, j < S → (2 : Int) ^ j < N)) (hS2 : Hid (N ≤ (2 : Int) ^ S))
    (v : Int) (s : Bool) (a : Nat) (hres : Hid (pickS f n S N (n + 1) 0 = (v, a, s))) (x1 : Int) (x2 x3 x4 : Int) (hv : Hid (toldS (.int .i64 0) (.int .i64 v, a, s) n = .tuple #[.int .i64 x1, .int .i64 x2, .agg #[.int .i64 x3, .int .i64 x4]])) :
    Calls Tryd.prog 11 #[.int .i64 N, .slice A n c] w fun e w' => e = .returned (.tuple #[.int .i64 x1, .int .i64 x2, .agg #[.int .i64 x3, .int .i64 x4]]) ∧ Below w.heap.size w w' := by
  have HR := Lib.hid hR
  have HO := Lib.hid hok
  clear hR hok
  go_enter Tryd.func11, Tryd.ntmps11
  go_wp2_with fail
  have H0 := Lib.hid (Held.new w)
  refine (check_ok n c A f _ hn (HR.out.below ((Below.refl _ _).alloc (Nat.le_refl _) _)) HO.out).mono ?_
  rintro e w1 ⟨rfl, hb1⟩
  have H1 := Lib.hid (H0.out.below hb1)
  have HR1 := Lib.hid ((HR.out.below ((Below.refl _ _).alloc (Nat.le_refl _) _)).below hb1)
  clear hb1 H0
  have hz : w.heap.size < w1.heap.size := H1.out.sz
  go_wp2_with fail
  have HT : Tape ((w1.alloc (Obj.cells #[Value.int IntKind.i64 0, Value.int IntKind.i64 0] 26)).alloc (Obj.cells #[Value.slice A n c, Value.int IntKind.i64 0, Value.bool false] 85)) (w1.heap.size + 1) A n c 0 false := Whole.new _ _ _ _ (by simp)
  have HR2 := Lib.hid ((HR1.out.below ((Below.refl _ _).alloc (Nat.le_refl _) (Obj.cells #[Value.int IntKind.i64 0, Value.int IntKind.i64 0] 26))).below ((Below.refl _ _).alloc (Nat.le_refl _) (Obj.cells #[Value.slice A n c, Value.int IntKind.i64 0, Value.bool false] 85)))
  have H2 := Lib.hid ((H1.out.alloc (Obj.cells #[Value.int IntKind.i64 0, Value.int IntKind.i64 0] 26)).alloc (Obj.cells #[Value.slice A n c, Value.int IntKind.i64 0, Value.bool false] 85))
  have hA : Apart A n (w1.heap.size + 1) := HR1.out.apart (by omega)
  refine (pick_any (w1.heap.size + 1) n c A f N S (by omega) hN hN2 hS hS1 hS2 _ HT HR2.out HO.out hA _ hres).mono ?_
  rintro e w2 ⟨rfl, hTo⟩
  have H3 := Lib.hid (H2.out.grown hTo.2 (by omega))
  have HTo := Lib.hid hTo
  clear hTo HT hA H2 H1
  go_wp2_with fail
  refine (told_int (w1.heap.size + 1) n c a A v s w2 HTo.out.1).mono ?_
  rw [hv.out]
  rintro e w3 ⟨rfl, hb3⟩
  have H4 := H3.out.below hb3
  have H5 := Lib.hid H4
  obtain ⟨c0, c1, f0, f1, sz, be⟩ := H4
  clear hb3 be H3
  go_wp2_with fail
  refine bodyPost_ret (v := .tuple #[.int .i64 x1, .int .i64 x2, .agg #[.int .i64 x3, .int .i64 x4]]) (by simp [results, Tryd.results11, go_sem, c0, c1]) rfl ⟨rfl, (H5.out.be.setCell (Nat.le_refl _) _).setCell (Nat.le_refl _) _⟩

set_option maxHeartbeats 1000000 in
theorem pick_range (N : Int) (n c : Nat) (A : Option Addr) (f : Nat → Int) (w : World) (hn : n ≤ 2000) (hR : Row w A n f) (hok : ∀ j, j < n → OkBit (f j)) (hbad : N < 1 ∨ 1000000 < N) :
    Calls Tryd.prog 11 #[.int .i64 N, .slice A n c] w fun e w' => e = .returned (.tuple #[.int .i64 0, .int .i64 0, .agg #[.int .i64 3, .int .i64 n]]) ∧ Below w.heap.size w w' := by
  have HR := Lib.hid hR
  have HO := Lib.hid hok
  have HB := Lib.hid hbad
  clear hR hok hbad
  go_enter Tryd.func11, Tryd.ntmps11
  go_wp2_with fail
  have H0 := Lib.hid (Held.new w)
  refine (check_ok n c A f _ hn (HR.out.below ((Below.refl _ _).alloc (Nat.le_refl _) _)) HO.out).mono ?_
  rintro e w1 ⟨rfl, hb1⟩
  have H1 := Lib.hid (H0.out.below hb1)
  clear hb1 H0
  have hz : w.heap.size < w1.heap.size := H1.out.sz
  have H5 := Lib.hid H1.out
  obtain ⟨c0, c1, f0, f1, sz, be⟩ := H1.out
  clear be H1
  go_wp2_with fail
  all_goals first | (exfalso; have := HB.out; omega) | skip
  all_goals exact bodyPost_ret (v := .tuple #[.int .i64 0, .int .i64 0, .agg #[.int .i64 3, .int .i64 n]]) (by simp [results, Tryd.results11, go_sem, c0, c1, hz]) rfl ⟨rfl, ((H5.out.be.setCell (Nat.le_refl _) _).setCell (Nat.le_refl _) _).alloc (by simp; omega) _⟩

set_option maxHeartbeats 1000000 in
theorem pick_fault (N code at_ : Int) (n c : Nat) (A : Option Addr) (w : World) (hC : Refuses A n c code at_ (w.alloc (Obj.cells #[.int .i64 0, .int .i64 0] 26))) (hcode : (code != 0) = true) :
    Calls Tryd.prog 11 #[.int .i64 N, .slice A n c] w fun e w' => e = .returned (.tuple #[.int .i64 0, .int .i64 0, .agg #[.int .i64 code, .int .i64 at_]]) ∧ Below w.heap.size w w' := by
  have HC := Lib.hid hC
  clear hC
  go_enter Tryd.func11, Tryd.ntmps11
  go_wp2_with fail
  have H0 := Lib.hid (Held.new w)
  refine HC.out.mono ?_
  rintro e w1 ⟨rfl, hb1⟩
  have H1 := Lib.hid (H0.out.below hb1)
  clear hb1 H0
  have hz : w.heap.size < w1.heap.size := H1.out.sz
  have H5 := Lib.hid H1.out
  obtain ⟨c0, c1, f0, f1, sz, be⟩ := H1.out
  clear be H1
  go_wp2_with fail
  go_region
  go_wp2_with fail
  exact bodyPost_ret (v := .tuple #[.int .i64 0, .int .i64 0, .agg #[.int .i64 code, .int .i64 at_]]) (by simp [results, Tryd.results11, go_sem, c0, c1, hz]) rfl ⟨rfl, (((H5.out.be.setCell (Nat.le_refl _) _).setCell (Nat.le_refl _) _).alloc (by simp; omega) _).drew⟩
end Go.Proofs.YtjjfkidddjcdcaaDoor

namespace Go.Proofs.YtjjfkidddjcdcaaDoor
open Go.ChangeShapes Go.WideShapes Go.ChangeAt Go.RowKit

set_option maxHeartbeats 1000000 in
theorem pick_from (t n c a0 g0 : Nat) (A : Option Addr) (f : Nat → Int) (N : Int) (S : Nat) (hn : n ≤ 1000000) (hN : 1 ≤ N) (_hN2 : N ≤ 1000000) (hS : S ≤ 20) (hS1 : Hid (∀ j, j < S → (2 : Int) ^ j < N)) (hS2 : Hid (N ≤ (2 : Int) ^ S))
    (w : World) (hT : Tape w t A n c a0 false) (ha0 : a0 ≤ n) (hg0 : n < a0 + g0) (hR : Row w A n f) (hok : ∀ j, j < n → OkBit (f j)) (hA : Apart A n t) (res : Int × Nat × Bool) (hres : Hid (pickS f n S N g0 a0 = res)) :
    Calls Tryd.prog 59 #[.pointer (some ⟨t, 0, none⟩), .int .i64 N] w fun e w' => e = .returned (.int .i64 res.1) ∧ To w w' t A n c res.2.1 res.2.2 := by
  have HS : PickRel f N S res w t A n c (g0 + 1) w := .inl ⟨g0, a0, rfl, ha0, hg0, hres.out, To.refl hT⟩
  have HR := Lib.hid hR
  have HO := Lib.hid hok
  have HA := Lib.hid hA
  have HSS := Lib.hid HS
  clear hT hR hA hres HS hok
  go_enter Tryd.func59, Tryd.ntmps59
  go_wp2_with fail
  go_loop [5] (fun v5 => ∃ k : Nat, k ≤ S ∧ v5 = .int .i64 k) (fun v5 => (S - (intOf v5).toNat))
  case atStart => exact ⟨0, by omega, rfl⟩
  case round =>
    obtain ⟨k, hk, rfl⟩ := hrel
    by_cases hlt : k < S
    · obtain ⟨T, hT⟩ : ∃ T : Int, (2 : Int) ^ k = T := ⟨_, rfl⟩
      have h2 := hS1.out k hlt
      have h1 := (wrap64_two k (by omega)).trans hT
      rw [hT] at h2
      have HT := Lib.hid hT
      clear hT
      go_wp2_with fail
      go_round
      case rel => exact ⟨k + 1, by omega, by go_num⟩
      case measure => simp [intOf]; omega
    · obtain rfl : k = S := by omega
      obtain ⟨T, hT⟩ : ∃ T : Int, (2 : Int) ^ k = T := ⟨_, rfl⟩
      have h2 := hS2.out
      have h1 := (wrap64_two k (by omega)).trans hT
      rw [hT] at h2
      have HT := Lib.hid hT
      clear hT
      go_wp2_with fail
      clear h1 h2
      go_loopg [6] (g0 + 1) (fun gk v6 wr => PickRel f N k res w t A n c gk wr)
      case atStart => exact HSS.out
      case round =>
        clear HSS
        rcases hrel with ⟨g, a, rfl, ha, hg, hres, hTo⟩ | ⟨rfl, hres, hTo⟩
        · have hc2 : wr.cell? ⟨t, 2, none⟩ = some (.bool false) := hTo.1.cell 2
          have HTo := Lib.hid hTo
          have HRES := Lib.hid hres
          clear hTo hres
          go_wp2_with fail
          obtain ⟨wo, hwo⟩ : ∃ wo : World, wo = wr := ⟨_, rfl⟩
          go_loopg [6, 19] k (fun gk v6 v19 wr2 => ReadRel f k a w t A n c gk v6 v19 wr2)
          case atStart => exact ⟨0, by omega, rfl, rfl, read_start ha HTo.out⟩
          case round =>
            obtain ⟨j, hj, rfl, rfl, hTo⟩ := hrel
            have hvb := val_bound f n a HO.out j
            by_cases hlt : j < k
            · obtain ⟨gk, rfl⟩ : ∃ g', gk = g' + 1 := ⟨gk - 1, by omega⟩
              have C := Lib.hid (nextb_any t n c (min (a + j) n) A f (decide (n < a + j)) wr hTo.1 (HR.out.grown hTo.2 HA.out) HA.out (by omega) (by intro h; have := of_decide_eq_true h; omega) hn (bitAt f n (a + j)) (bitAt_min f n (a + j)) (min (a + (j + 1)) n) (by show _ = _; omega) (decide (n < a + (j + 1))) (by show _ = _; rw [decide_eq_decide]; omega))
              have hob := bitAt_ok f n (a + j) HO.out
              have hv2 : val f n a (j + 1) = 2 * val f n a j + bitAt f n (a + j) := rfl
              have hpow : (2 : Int) ^ j ≤ 2 ^ 20 := by
                have := PL.pow_bound j 20 (by omega)
                rw [pow_cast, pow_cast]
                omega
              have hvb2 : val f n a j < 1048576 := by omega
              have hor := or_bit (val f n a j) (bitAt f n (a + j)) hvb.1 (by omega) hob
              rw [← hv2] at hor
              have hvb1 := hvb.1
              have HTo2 := Lib.hid hTo
              clear hTo hv2 hpow hvb hob
              generalize hV2 : val f n a (j + 1) = V2 at *
              have HV2 := Lib.hid hV2
              clear hV2
              generalize val f n a j = V at *
              generalize bitAt f n (a + j) = x at *
              go_wp2_with (go_at_call 94; refine C.out.mono ?_; rintro e w2 ⟨rfl, hT2⟩)
              go_roundg gk
              case measure => omega
              case rel => exact read_step HV2.out (by omega) (HTo2.out.trans hT2)
            · obtain rfl : j = k := by omega
              have HTo2 := Lib.hid hTo
              have hres := HRES.out
              have hjpos := fun (h : N ≤ val f n a j) => pick_pos f n a j N hN hvb.2 h
              have hvb1 := hvb.1
              obtain ⟨g', rfl⟩ : ∃ g', g = g' + 1 := ⟨g - 1, by omega⟩
              unfold pickS at hres
              clear hTo HRES hvb
              by_cases hv : val f n a j < N
              · rw [if_pos hv] at hres
                clear hjpos
                generalize val f n a j = V at *
                subst hres
                go_wp2_with fail
                go_ret
                exact ⟨rfl, HTo2.out⟩
              · rw [if_neg hv] at hres
                have hj1 := hjpos (by omega)
                clear hjpos
                by_cases hs : n < a + j
                · rw [if_pos hs] at hres
                  generalize val f n a j = V at *
                  go_wp2_with fail
                  go_roundg 0
                  case measure => omega
                  case rel => exact .inr ⟨rfl, hres.symm, pick_short hs HTo2.out⟩
                · rw [if_neg hs] at hres
                  have HRES2 := Lib.hid hres
                  clear hres
                  generalize val f n a j = V at *
                  go_wp2_with fail
                  go_roundg (g' + 1)
                  case measure => omega
                  case rel => exact .inl ⟨g', a + j, rfl, by omega, by omega, HRES2.out, pick_on hs HTo2.out⟩
        · have hc2 : wr.cell? ⟨t, 2, none⟩ = some (.bool true) := hTo.1.cell 2
          have HTo := Lib.hid hTo
          subst hres
          clear hTo
          go_wp2_with fail
          go_ret
          exact ⟨rfl, HTo.out⟩

set_option maxHeartbeats 1000000 in
theorem pick_none (t n c : Nat) (A : Option Addr) (N : Int) (S : Nat) (_hN : 1 ≤ N) (_hN2 : N ≤ 1000000) (hS : S ≤ 20) (hS1 : Hid (∀ j, j < S → (2 : Int) ^ j < N)) (hS2 : Hid (N ≤ (2 : Int) ^ S))
    (w : World) (hT : Tape w t A n c n true) :
    Calls Tryd.prog 59 #[.pointer (some ⟨t, 0, none⟩), .int .i64 N] w fun e w' => e = .returned (.int .i64 0) ∧ To w w' t A n c n true := by
  have HT0 := Lib.hid (To.refl hT)
  have hc2 : w.cell? ⟨t, 2, none⟩ = some (.bool true) := hT.cell 2
  clear hT
  go_enter Tryd.func59, Tryd.ntmps59
  go_wp2_with fail
  go_loop [5] (fun v5 => ∃ k : Nat, k ≤ S ∧ v5 = .int .i64 k) (fun v5 => (S - (intOf v5).toNat))
  case atStart => exact ⟨0, by omega, rfl⟩
  case round =>
    obtain ⟨k, hk, rfl⟩ := hrel
    by_cases hlt : k < S
    · obtain ⟨T, hT⟩ : ∃ T : Int, (2 : Int) ^ k = T := ⟨_, rfl⟩
      have h2 := hS1.out k hlt
      have h1 := (wrap64_two k (by omega)).trans hT
      rw [hT] at h2
      have HT := Lib.hid hT
      clear hT
      go_wp2_with fail
      go_round
      case rel => exact ⟨k + 1, by omega, by go_num⟩
      case measure => simp [intOf]; omega
    · obtain rfl : k = S := by omega
      obtain ⟨T, hT⟩ : ∃ T : Int, (2 : Int) ^ k = T := ⟨_, rfl⟩
      have h2 := hS2.out
      have h1 := (wrap64_two k (by omega)).trans hT
      rw [hT] at h2
      have HT := Lib.hid hT
      clear hT
      go_wp2_with fail
      clear h1 h2
      go_loopg [6] 1 (fun gk v6 wr => wr = w)
      case atStart => rfl
      case round =>
        subst hrel
        go_wp2_with fail
        go_ret
        exact ⟨rfl, HT0.out⟩
end Go.Proofs.YtjjfkidddjcdcaaDoor
