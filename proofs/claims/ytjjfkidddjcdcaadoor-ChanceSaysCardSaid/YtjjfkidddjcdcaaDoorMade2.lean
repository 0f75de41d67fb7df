/- Proved here: the contract of the document's Made at this program: the float that the program's Make gives. Conditions: as each theorem says. -/
import Derived.Test.YtjjfkidddjcdcaaDoorRound1
import Derived.Test.YtjjfkidddjcdcaaDoorWhole
namespace Go.Proofs.YtjjfkidddjcdcaaDoor
open Go.ChangeShapes Go.WideShapes Go.ChangeAt Go.RowKit

/-- The nearest float hangs on the value alone. -/
theorem flt_val {a a' : Int} {k j : Nat} (h : a' * 2 ^ k = a * 2 ^ j) (h1 : a < 0 → a' < 0) (h2 : 0 ≤ a → 0 ≤ a') : fltW a' j = fltW a k := by
  have hs : (a' < 0) = (a < 0) := propext ⟨fun q => by rcases Int.lt_or_le a 0 with r | r; exact r; have := h2 r; omega, h1⟩
  have hn : a'.natAbs * 2 ^ k = a.natAbs * 2 ^ j := by
    have := congrArg Int.natAbs h
    rwa [shl_abs, shl_abs] at this
  unfold fltW
  simp only [hs]
  congr 1
  rw [← PL.rung_val Ieee.double a'.natAbs _ k, ← PL.rung_val Ieee.double a.natAbs _ j, Nat.shiftLeft_eq, Nat.shiftLeft_eq, hn]
  congr 1
  omega

theorem made_val (m c : Int) (a2 a3 : Int) (j2 j3 : Nat) (e2 : a2 * 2 ^ (-c).toNat = ((2 ^ c.toNat : Nat) : Int) * 2 ^ j2) (e3 : a3 * 2 ^ (0 + j2) = m * a2 * 2 ^ j3) : a3 * 2 ^ (-c).toNat = m * ((2 ^ c.toNat : Nat) : Int) * 2 ^ j3 := by
  rw [Nat.zero_add] at e3
  have hp : (2 : Int) ^ j2 ≠ 0 := Int.ne_of_gt (Int.pow_pos (by omega))
  apply Int.eq_of_mul_eq_mul_right hp
  generalize (2 : Int) ^ (-c).toNat = K at *
  generalize (2 : Int) ^ j2 = J at *
  generalize (2 : Int) ^ j3 = T at *
  generalize ((2 ^ c.toNat : Nat) : Int) = C at *
  have : a3 * K * J = (a3 * J) * K := by grind
  rw [this, e3]
  have : m * a2 * T * K = m * T * (a2 * K) := by grind
  rw [this, e2]
  grind

theorem made_word (m e c : Int) (hc : c = min (max e (-5000)) 5000) : fltW (m * ((2 ^ c.toNat : Nat) : Int)) (-c).toNat = makeW (decide (m < 0)) m.natAbs e := by
  have hp : (0 : Int) < ((2 ^ c.toNat : Nat) : Int) := by have := Nat.two_pow_pos c.toNat; omega
  unfold makeW fltW
  rw [← hc]
  have hs : (m * ((2 ^ c.toNat : Nat) : Int) < 0) = (m < 0) := by
    apply propext
    constructor
    · intro h
      rcases Int.lt_or_le m 0 with r | r
      · exact r
      · have := Int.mul_nonneg r (Int.le_of_lt hp); omega
    · intro h; exact Int.mul_neg_of_neg_of_pos h hp
  simp only [hs, decide_eq_true_eq]
  congr 1
  rw [Int.natAbs_mul, Int.natAbs_natCast]
  show PL.rungOf (PL.fmt 11 52) _ _ = _
  by_cases h : 0 ≤ c
  · have h1 : (-c).toNat = 0 := by omega
    rw [h1, ← PL.rung_val (PL.fmt 11 52) m.natAbs c c.toNat, Nat.shiftLeft_eq]
    congr 1
    omega
  · have h1 : c.toNat = 0 := by omega
    rw [h1, Nat.pow_zero, Nat.mul_one]
    congr 1
    omega

theorem lt_pow_of {x y A B : Nat} (h0 : x ≤ y) (h : y < 2 ^ A) (hAB : A ≤ B) : x < 2 ^ B := Nat.lt_of_le_of_lt h0 (Nat.lt_of_lt_of_le h (PL.pow_bound _ _ hAB))
/-- A nought is kept where another block turns. -/
theorem At.kept {w w' : World} {g g' o : Nat} (h : At w g o 0) (hg : w.grownBy w' (some g')) (hne : g ≠ g') : At w' g o 0 := by
  obtain ⟨l, s, ⟨A, c, h1, _⟩, f0, f1⟩ := h
  have hb := hg.block g l (fun e => hne (by injection e))
  exact ⟨Nat.lt_of_lt_of_le l hg.size, (World.cell?_of_block (a := ⟨g, o, none⟩) hb).trans s, ⟨A, c, (World.cell?_of_block (a := ⟨g, o + 1, none⟩) hb).trans h1, fun hn => by simp [wc_zero] at hn⟩,
    (World.frozen?_of_block (a := ⟨g, o, none⟩) hb).trans f0, (World.frozen?_of_block (a := ⟨g, o + 1, none⟩) hb).trans f1⟩

def PowOut (e : Int) (w : World) (en : Ending) (w' : World) : Prop := Below w.heap.size w w' ∧ ∃ g, en = .returned (.pointer (some ⟨g, 0, none⟩)) ∧ w.heap.size ≤ g ∧ RatIs w' g ((2 ^ e.toNat : Nat) : Int) (-e).toNat

theorem nat_lt_prod {a b : Int} {A B : Nat} (ha : a.natAbs < 2 ^ A) (hb : b.natAbs < 2 ^ B) : (a * b).natAbs < 2 ^ (A + B) := by
  rw [Int.natAbs_mul, Nat.pow_add]
  rcases Nat.eq_zero_or_pos b.natAbs with h | h
  · rw [h, Nat.mul_zero]; exact Nat.mul_pos (Nat.two_pow_pos _) (Nat.two_pow_pos _)
  · exact Nat.lt_of_lt_of_le (Nat.mul_lt_mul_of_pos_right ha h) (Nat.mul_le_mul_left _ (Nat.le_of_lt hb))

/-- The numbers of a made float, their bounds: m of 64 bits times a power of two. -/
theorem made_bounds {m c : Int} {w w2 : World} {g gp : Nat} (hm1 : -9223372036854775808 ≤ m) (hm2 : m ≤ 9223372036854775807) (c1 : -5000 ≤ c) (c2 : c ≤ 5000)
    (h1 : RatIs w g m 0) (h2 : RatIs w2 gp ((2 ^ c.toNat : Nat) : Int) (-c).toNat) :
    RatAt w g m 0 ∧ ∃ a2 j2, RatAt w2 gp a2 j2 ∧ a2 * 2 ^ (-c).toNat = ((2 ^ c.toNat : Nat) : Int) * 2 ^ j2 ∧ j2 ≤ 5000 ∧ a2.natAbs < 2 ^ (c.toNat + 1) ∧ m.natAbs < 2 ^ 64 ∧ 0 ≤ a2 ∧ 0 < a2 := by
  obtain ⟨a1, j1, r1, e1, b1, k1, _⟩ := h1
  obtain ⟨a2, j2, r2, e2, b2, k2, _, p2⟩ := h2
  obtain rfl : j1 = 0 := by omega
  rw [Int.pow_zero, Int.mul_one, Int.mul_one] at e1
  subst e1
  have p0 := p2 (Int.natCast_nonneg _)
  refine ⟨r1, a2, j2, r2, e2, by omega, ?_, by omega, p0, ?_⟩
  · rw [Int.natAbs_natCast] at b2
    refine Nat.lt_of_le_of_lt b2 ?_
    have := Nat.two_pow_pos c.toNat
    rw [Nat.pow_succ]
    omega
  · rcases Int.lt_or_le 0 a2 with h | h
    · exact h
    · exfalso
      obtain rfl : a2 = 0 := by omega
      rw [Int.zero_mul] at e2
      have h1 : (0 : Int) < ((2 ^ c.toNat : Nat) : Int) := by have := Nat.two_pow_pos c.toNat; omega
      have h2 : (0 : Int) < 2 ^ j2 := Int.pow_pos (by omega)
      have := Int.mul_pos h1 h2
      omega

theorem made_end {m c a2 a3 : Int} {j2 j3 : Nat} (e2 : a2 * 2 ^ (-c).toNat = ((2 ^ c.toNat : Nat) : Int) * 2 ^ j2) (e3 : a3 * 2 ^ (0 + j2) = m * a2 * 2 ^ j3) (p2 : 0 ≤ a2) (n3 : m * a2 < 0 → a3 < 0) (q3 : 0 ≤ m * a2 → 0 ≤ a3) (hp2 : 0 < a2) :
    fltW a3 j3 = fltW (m * ((2 ^ c.toNat : Nat) : Int)) (-c).toNat := by
  have hp : (0 : Int) < ((2 ^ c.toNat : Nat) : Int) := by have := Nat.two_pow_pos c.toNat; omega
  refine flt_val (made_val m c a2 a3 j2 j3 e2 e3) (fun h => ?_) (fun h => ?_)
  · refine n3 (Int.mul_neg_of_neg_of_pos ?_ hp2)
    rcases Int.lt_or_le m 0 with r | r
    · exact r
    · have := Int.mul_nonneg r (Int.le_of_lt hp); omega
  · refine q3 (Int.mul_nonneg ?_ p2)
    rcases Int.lt_or_le m 0 with r | r
    · have := Int.mul_neg_of_neg_of_pos r hp; omega
    · exact r

set_option maxRecDepth 100000 in
set_option maxHeartbeats 1000000 in
theorem made_z (m e : Int) (w : World) (hm1 : -9223372036854775808 ≤ m) (hm2 : m ≤ 9223372036854775807) :
    Calls Tryd.prog 24 #[.int .i64 m, .int .i64 e] w fun en w' => Below w.heap.size w w' ∧ en = .returned (.float .f64 (makeW (decide (m < 0)) m.natAbs e)) := by
  obtain ⟨c, hc⟩ : ∃ c, min (max e (-5000)) 5000 = c := ⟨_, rfl⟩
  have c1 : -5000 ≤ c := by omega
  have c2 : c ≤ 5000 := by omega
  have HW := Lib.hid (made_word m e c hc.symm)
  generalize hV : makeW (decide (m < 0)) m.natAbs e = V at *
  clear hV
  have main : ∀ (wq : World), Below w.heap.size w wq → At wq w.heap.size 0 0 → At wq w.heap.size 2 0 → At wq (w.heap.size + 1) 0 0 → At wq (w.heap.size + 1) 2 0 → True := fun _ _ _ _ _ _ => trivial
  have z1 := ratzero1 w
  have z2 := ratzero2 w
  have b1 := below_new w (Obj.cells #[.bool false, .slice none 0 0, .bool false, .slice none 0 0] 103)
  have hsz : (w.alloc (Obj.cells #[.bool false, .slice none 0 0, .bool false, .slice none 0 0] 103)).heap.size = w.heap.size + 1 := by simp
  have z3 := ratzero1 (w.alloc (Obj.cells #[.bool false, .slice none 0 0, .bool false, .slice none 0 0] 103))
  have z4 := ratzero2 (w.alloc (Obj.cells #[.bool false, .slice none 0 0, .bool false, .slice none 0 0] 103))
  have b2 := below_new (w.alloc (Obj.cells #[.bool false, .slice none 0 0, .bool false, .slice none 0 0] 103)) (Obj.cells #[.bool false, .slice none 0 0, .bool false, .slice none 0 0] 103)
  have z1' := z1.below b2
  have z2' := z2.below b2
  have b12 := b1.alloc b1.size (Obj.cells #[.bool false, .slice none 0 0, .bool false, .slice none 0 0] 103)
  rw [hsz] at z3 z4
  have Z1 := Lib.hid z1'
  have Z2 := Lib.hid z2'
  have Z3 := Lib.hid z3
  have Z4 := Lib.hid z4
  have B12 := Lib.hid b12
  clear z1 z2 z3 z4 z1' z2' b1 b2 b12 hsz main
  generalize hW2 : (w.alloc (Obj.cells #[.bool false, .slice none 0 0, .bool false, .slice none 0 0] 103)).alloc (Obj.cells #[.bool false, .slice none 0 0, .bool false, .slice none 0 0] 103) = W2 at *
  have C1 := Lib.hid (setint64_r (w.heap.size + 1) 0 0 m W2 Z3.out Z4.out hm1 hm2)
  have hcases : e < -5000 ∧ c = -5000 ∨ 5000 < e ∧ c = 5000 ∨ (-5000 ≤ e ∧ e ≤ 5000 ∧ c = e) := by omega
  obtain ⟨c', hcc⟩ : ∃ c', c' = c := ⟨c, rfl⟩
  have CP : Hid (∀ wq : World, Calls Tryd.prog 71 #[.int .i64 c] wq (PowOut c' wq)) := fun wq => by rw [hcc]; exact pow2_z c wq (by omega) (by omega)
  have HC1 : Hid (-5000 ≤ c') := by show _ ≤ _; omega
  have HC2 : Hid (c' ≤ 5000) := by show _ ≤ _; omega
  rw [← hcc] at HW
  clear hc hcc c1 c2
  rcases hcases with ⟨h, rfl⟩ | ⟨h, rfl⟩ | ⟨h, h', rfl⟩
  all_goals
    go_enter Tryd.func24, Tryd.ntmps24
    go_wp2_with fail
    refine C1.out.mono ?_
    rintro en w3 ⟨rfl, hP⟩
    have hb3 : Below w.heap.size w w3 := (new_rat B12.out (Nat.le_succ _) hP).1
    have hx3 := hP.2
    have k1 : At w3 w.heap.size 0 0 := At.kept Z1.out hP.1 (by omega)
    have k2 : At w3 w.heap.size 2 0 := At.kept Z2.out hP.1 (by omega)
    clear hP C1 Z1 Z2 Z3 Z4 B12 hW2
    go_wp2_with fail
    refine (CP.out w3).mono ?_
    rintro en w4 ⟨hb4, gp, rfl, hgp, hy4⟩
    obtain ⟨r1, a2, j2, r2, e2, l2, l3, l4, p2, p3⟩ := made_bounds hm1 hm2 HC1.out HC2.out hx3 hy4
    have hprod := nat_lt_prod l4 l3
    have hb04 : Below w.heap.size w w4 := hb3.trans (hb4.mono hb3.size)
    have hc2 := HC2.out
    have CM := Lib.hid (ratmul_z w.heap.size (w.heap.size + 1) gp 0 j2 0 0 m a2 w4 (k1.below hb4) (k2.below hb4) (r1.below hb4) r2 (Nat.le_trans (wc_of_lt l4) (by omega)) (Nat.le_trans (wc_of_lt l3) (by omega)) (Nat.le_trans (wc_of_lt hprod) (by omega)) (by omega) (by omega))
    have HE2 := Lib.hid e2
    have HPr := Lib.hid hprod
    clear hx3 hy4 k1 k2 r1 r2 e2 l3 l4 hprod hb3 hb4
    go_wp2_with fail
    refine CM.out.mono ?_
    rintro en w5 ⟨rfl, hP5⟩
    obtain ⟨hb5, a3, j3, r3, e3, l5, l6, n3, q3⟩ := new_rat hb04 (Nat.le_refl _) hP5
    have hexp : 64 + (c'.toNat + 1) ≤ 20000 := by omega
    have hal := lt_pow_of l5 HPr.out hexp
    have CR := Lib.hid (round_one w.heap.size j3 a3 w5 r3 hal (by omega))
    rw [made_end HE2.out e3 p2 n3 q3 p3, HW.out] at CR
    clear hP5 r3 e3 l5 n3 q3 hal HE2 HPr CM
    go_wp2_with fail
    refine CR.out.mono ?_
    rintro en w6 ⟨hb6, rfl⟩
    go_wp2_with fail
    go_ret
    exact ⟨hb5.trans (hb6.mono hb5.size), rfl⟩
end Go.Proofs.YtjjfkidddjcdcaaDoor
