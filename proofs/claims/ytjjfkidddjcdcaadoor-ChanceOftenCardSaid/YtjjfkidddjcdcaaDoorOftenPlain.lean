/- Proved here: plain facts on flips and picks of all rows of ten bits: how many come true, and that each pick comes as often as each other. Conditions: as each theorem says. -/
import Derived.Test.YtjjfkidddjcdcaaDoorFlips2
namespace Go.Proofs.YtjjfkidddjcdcaaDoor

def sumTo (g : Nat → Nat) : Nat → Nat
  | 0 => 0
  | m + 1 => sumTo g m + g m

theorem sumTo_s (g : Nat → Nat) (m : Nat) : sumTo g (m + 1) = sumTo g m + g m := rfl

theorem sumTo_congr {g h : Nat → Nat} : ∀ m, (∀ k, k < m → g k = h k) → sumTo g m = sumTo h m
  | 0, _ => rfl
  | m + 1, H => by
    unfold sumTo
    rw [sumTo_congr m (fun k hk => H k (by omega)), H m (by omega)]
theorem sumTo_plus (g : Nat → Nat) (a : Nat) : ∀ b, sumTo g (a + b) = sumTo g a + sumTo (fun v => g (a + v)) b
  | 0 => rfl
  | b + 1 => by
    rw [show a + (b + 1) = (a + b) + 1 from rfl, sumTo_s, sumTo_s, sumTo_plus g a b]
    omega
theorem sumTo_two (g : Nat → Nat) : ∀ m, sumTo g (2 * m) = sumTo (fun k => g (2 * k)) m + sumTo (fun k => g (2 * k + 1)) m
  | 0 => rfl
  | m + 1 => by
    rw [show 2 * (m + 1) = 2 * m + 1 + 1 by omega, sumTo_s, sumTo_s, sumTo_s, sumTo_s, sumTo_two g m]
    omega
theorem sumTo_const (c : Nat) : ∀ m, sumTo (fun _ => c) m = m * c
  | 0 => by simp [sumTo]
  | m + 1 => by
    unfold sumTo
    rw [sumTo_const c m, Nat.add_mul, Nat.one_mul]
theorem sumTo_one (x M : Nat) : ∀ m, sumTo (fun v => if v = x then M else 0) m = if x < m then M else 0
  | 0 => by simp [sumTo]
  | m + 1 => by
    unfold sumTo
    rw [sumTo_one x M m]
    by_cases h : m = x
    · subst h; simp
    · rw [if_neg h]
      by_cases h2 : x < m
      · rw [if_pos h2, if_pos (by omega), Nat.add_zero]
      · rw [if_neg h2, if_neg (by omega)]
theorem sumTo_le {g : Nat → Nat} (H : ∀ k, g k ≤ 1) : ∀ m, sumTo g m ≤ m
  | 0 => by simp [sumTo]
  | m + 1 => by
    unfold sumTo
    have := sumTo_le H m
    have := H m
    omega

/-! ### Flips -/
/-- What a flip says of the bits of k, n of them: 0 not, 1 yes, 2 open. -/
def fl (q : Int) : Nat → Int → Nat → Nat
  | 0, _, _ => 2
  | n + 1, p, k =>
    if q ≤ 2 * p then (if k % 2 = 1 then (if 2 * p - q = 0 then 0 else fl q n (2 * p - q) (k / 2)) else 1)
    else (if k % 2 = 0 then (if 2 * p = 0 then 0 else fl q n (2 * p) (k / 2)) else 0)

def flc (q : Int) (z n : Nat) (p : Int) : Nat := sumTo (fun k => if fl q n p k = z then 1 else 0) (2 ^ n)

theorem flc_succ (q : Int) (z n : Nat) (p : Int) : flc q z (n + 1) p = sumTo (fun k => if fl q (n + 1) p (2 * k) = z then 1 else 0) (2 ^ n) + sumTo (fun k => if fl q (n + 1) p (2 * k + 1) = z then 1 else 0) (2 ^ n) := by
  unfold flc
  rw [show 2 ^ (n + 1) = 2 * 2 ^ n by rw [Nat.pow_succ, Nat.mul_comm], sumTo_two]

theorem fl_even (q : Int) (n : Nat) (p : Int) (k : Nat) : fl q (n + 1) p (2 * k) = if q ≤ 2 * p then 1 else if 2 * p = 0 then 0 else fl q n (2 * p) k := by
  show (if q ≤ 2 * p then (if 2 * k % 2 = 1 then _ else 1) else (if 2 * k % 2 = 0 then _ else 0)) = _
  rw [if_neg (show ¬ 2 * k % 2 = 1 by omega), if_pos (show 2 * k % 2 = 0 by omega), show 2 * k / 2 = k by omega]
theorem fl_odd (q : Int) (n : Nat) (p : Int) (k : Nat) : fl q (n + 1) p (2 * k + 1) = if q ≤ 2 * p then (if 2 * p - q = 0 then 0 else fl q n (2 * p - q) k) else 0 := by
  show (if q ≤ 2 * p then (if (2 * k + 1) % 2 = 1 then _ else 1) else (if (2 * k + 1) % 2 = 0 then _ else 0)) = _
  rw [if_pos (show (2 * k + 1) % 2 = 1 by omega), if_neg (show ¬ (2 * k + 1) % 2 = 0 by omega), show (2 * k + 1) / 2 = k by omega]

theorem sum_same (z c m : Nat) : sumTo (fun _ => if c = z then 1 else 0) m = if c = z then m else 0 := by
  by_cases h : c = z
  · simp only [if_pos h]; rw [sumTo_const, Nat.mul_one]
  · simp only [if_neg h]; rw [sumTo_const, Nat.mul_zero]

theorem fl_counts (q : Int) (hq : 1 ≤ q) : ∀ (n : Nat) (p : Int), 0 ≤ p → p ≤ q → (flc q 1 n p : Int) * q ≤ p * ((2 ^ n : Nat) : Int) ∧ p * ((2 ^ n : Nat) : Int) ≤ ((flc q 1 n p : Int) + flc q 2 n p) * q ∧ flc q 2 n p ≤ 1
  | 0, p, hp, hpq => by
    have h1 : flc q 1 0 p = 0 := rfl
    have h2 : flc q 2 0 p = 1 := rfl
    rw [h1, h2]
    refine ⟨?_, ?_, Nat.le_refl _⟩ <;> simp <;> omega
  | n + 1, p, hp, hpq => by
    have hm : ∀ x : Int, x * ((2 ^ (n + 1) : Nat) : Int) = 2 * x * ((2 ^ n : Nat) : Int) := fun x => by
      rw [show 2 ^ (n + 1) = 2 * 2 ^ n by rw [Nat.pow_succ, Nat.mul_comm]]
      push_cast
      rw [Int.mul_comm 2 x, Int.mul_assoc]
    rw [hm, flc_succ, flc_succ]
    by_cases hd : q ≤ 2 * p
    · by_cases h0 : 2 * p - q = 0
      · have e1 : ∀ z, sumTo (fun k => if fl q (n + 1) p (2 * k) = z then 1 else 0) (2 ^ n) = if 1 = z then 2 ^ n else 0 := fun z => by
          rw [← sum_same]; exact sumTo_congr _ (fun k _ => by rw [fl_even, if_pos hd])
        have e2 : ∀ z, sumTo (fun k => if fl q (n + 1) p (2 * k + 1) = z then 1 else 0) (2 ^ n) = if 0 = z then 2 ^ n else 0 := fun z => by
          rw [← sum_same]; exact sumTo_congr _ (fun k _ => by rw [fl_odd, if_pos hd, if_pos h0])
        rw [e1, e2, e1, e2]
        have : 2 * p = q := by omega
        rw [this]
        simp [Int.mul_comm]
      · have e1 : ∀ z, sumTo (fun k => if fl q (n + 1) p (2 * k) = z then 1 else 0) (2 ^ n) = if 1 = z then 2 ^ n else 0 := fun z => by
          rw [← sum_same]; exact sumTo_congr _ (fun k _ => by rw [fl_even, if_pos hd])
        have e2 : ∀ z, sumTo (fun k => if fl q (n + 1) p (2 * k + 1) = z then 1 else 0) (2 ^ n) = flc q z n (2 * p - q) := fun z =>
          sumTo_congr _ (fun k _ => by rw [fl_odd, if_pos hd, if_neg h0])
        rw [e1, e2, e1, e2]
        obtain ⟨a, b, c⟩ := fl_counts q hq n (2 * p - q) (by omega) (by omega)
        generalize 2 ^ n = T at *
        rw [if_pos rfl, if_neg (by decide)]
        rw [Int.sub_mul] at a b
        push_cast
        rw [Int.add_mul] at b ⊢
        rw [Int.add_mul, Int.add_mul]
        have := Int.mul_comm q T
        refine ⟨?_, ?_, ?_⟩ <;> (try simp) <;> omega
    · have e2 : ∀ z, sumTo (fun k => if fl q (n + 1) p (2 * k + 1) = z then 1 else 0) (2 ^ n) = if 0 = z then 2 ^ n else 0 := fun z => by
        rw [← sum_same]; exact sumTo_congr _ (fun k _ => by rw [fl_odd, if_neg hd])
      by_cases h0 : 2 * p = 0
      · have e1 : ∀ z, sumTo (fun k => if fl q (n + 1) p (2 * k) = z then 1 else 0) (2 ^ n) = if 0 = z then 2 ^ n else 0 := fun z => by
          rw [← sum_same]; exact sumTo_congr _ (fun k _ => by rw [fl_even, if_neg hd, if_pos h0])
        rw [e1, e2, e1, e2, h0]
        simp
      · have e1 : ∀ z, sumTo (fun k => if fl q (n + 1) p (2 * k) = z then 1 else 0) (2 ^ n) = flc q z n (2 * p) := fun z =>
          sumTo_congr _ (fun k _ => by rw [fl_even, if_neg hd, if_neg h0])
        rw [e1, e2, e1, e2]
        obtain ⟨a, b, c⟩ := fl_counts q hq n (2 * p) (by omega) (by omega)
        simpa using ⟨a, b, c⟩

/-- The bits of k. -/
def rowOf (k : Nat) : Nat → Int := fun j => ((k / 2 ^ j % 2 : Nat) : Int)

/-- A flip's outcome in one number. -/
def flCode (r : Bool × Nat × Bool) : Nat := if r.2.2 then 2 else if r.1 then 1 else 0

theorem flip_fl (k : Nat) (q : Int) : ∀ (n a : Nat) (p : Int), flCode (flipS (rowOf k) q n a p) = fl q n p (k / 2 ^ a)
  | 0, a, p => rfl
  | n + 1, a, p => by
    have hs : k / 2 ^ a / 2 = k / 2 ^ (a + 1) := by rw [Nat.div_div_eq_div_mul, Nat.pow_succ]
    have ih := fun p' => flip_fl k q n (a + 1) p'
    unfold flipS fl
    rw [hs]
    have hb : rowOf k a = ((k / 2 ^ a % 2 : Nat) : Int) := rfl
    rw [hb]
    generalize k / 2 ^ a = m at *
    rcases Nat.mod_two_eq_zero_or_one m with e | e <;> rw [e] <;> by_cases hd : q ≤ 2 * p
    · simp [hd, flCode]
    · rw [if_neg hd, if_neg hd, if_pos (by rfl), if_pos rfl]
      by_cases h0 : 2 * p = 0
      · rw [if_pos h0, if_pos h0]; rfl
      · rw [if_neg h0, if_neg h0]; exact ih _
    · rw [if_pos hd, if_pos hd, if_pos (by rfl), if_pos rfl]
      by_cases h0 : 2 * p - q = 0
      · rw [if_pos h0, if_pos h0]; rfl
      · rw [if_neg h0, if_neg h0]; exact ih _
    · simp [hd, flCode]

/-! ### Picks -/
/-- What a pick of N says of the bits of k, n of them left, r of them wanted beside the number u. -/
def pk (S N : Nat) : Nat → Nat → Nat → Nat → Option Nat
  | 0, r, u, _ => if r = 0 ∧ u < N then some u else none
  | n + 1, 0, u, k => if u < N then some u else pk S N n (S - 1) (k % 2) (k / 2)
  | n + 1, r + 1, u, k => pk S N n r (2 * u + k % 2) (k / 2)

theorem pk_done (S N n u k : Nat) (h : u < N) : pk S N n 0 u k = some u := by
  cases n <;> simp [pk, h]
theorem pk_short (S N : Nat) : ∀ n r u k, n < r → pk S N n r u k = none
  | 0, r, u, k, h => by
    unfold pk
    rw [if_neg (by omega)]
  | n + 1, 0, _, _, h => by omega
  | n + 1, r + 1, u, k, h => by
    unfold pk
    exact pk_short S N n r _ _ (by omega)
theorem pk_again (S N n u k : Nat) (hS : 1 ≤ S) (h : N ≤ u) : pk S N n 0 u k = pk S N n S 0 k := by
  cases n with
  | zero => rw [pk_short S N 0 S 0 k (by omega)]; unfold pk; rw [if_neg (by omega)]
  | succ n =>
    obtain ⟨s, rfl⟩ : ∃ s, S = s + 1 := ⟨S - 1, by omega⟩
    rw [pk, if_neg (by omega), pk]
    simp

def pc (S N x n r u : Nat) : Nat := sumTo (fun k => if pk S N n r u k = some x then 1 else 0) (2 ^ n)

theorem pc_step (S N x n r u : Nat) : pc S N x (n + 1) (r + 1) u = pc S N x n r (2 * u) + pc S N x n r (2 * u + 1) := by
  unfold pc
  rw [show 2 ^ (n + 1) = 2 * 2 ^ n by rw [Nat.pow_succ, Nat.mul_comm], sumTo_two]
  congr 1
  · refine sumTo_congr _ (fun k _ => ?_)
    rw [pk, show 2 * k % 2 = 0 by omega, show 2 * k / 2 = k by omega, Nat.add_zero]
  · refine sumTo_congr _ (fun k _ => ?_)
    rw [pk, show (2 * k + 1) % 2 = 1 by omega, show (2 * k + 1) / 2 = k by omega]
theorem pc_short (S N x n r u : Nat) (h : n < r) : pc S N x n r u = 0 := by
  unfold pc
  rw [sumTo_congr (h := fun _ => 0) _ (fun k _ => by rw [pk_short S N n r u k h]; rfl), sumTo_const, Nat.mul_zero]
theorem pc_done (S N x n u : Nat) (h : u < N) : pc S N x n 0 u = if u = x then 2 ^ n else 0 := by
  unfold pc
  rw [sumTo_congr (h := fun _ => if u = x then 1 else 0) _ (fun k _ => by rw [pk_done S N n u k h]; simp), sum_same]
theorem pc_again (S N x n u : Nat) (hS : 1 ≤ S) (h : N ≤ u) : pc S N x n 0 u = pc S N x n S 0 := by
  unfold pc
  exact sumTo_congr _ (fun k _ => by rw [pk_again S N n u k hS h])
theorem pc_run (S N x : Nat) : ∀ r n u, r ≤ n → pc S N x n r u = sumTo (fun v => pc S N x (n - r) 0 (u * 2 ^ r + v)) (2 ^ r)
  | 0, n, u, _ => by simp [sumTo]
  | r + 1, 0, u, h => by omega
  | r + 1, n + 1, u, h => by
    rw [pc_step, pc_run S N x r n _ (by omega), pc_run S N x r n _ (by omega), show 2 ^ (r + 1) = 2 ^ r + 2 ^ r by rw [Nat.pow_succ]; omega, sumTo_plus, show n + 1 - (r + 1) = n - r by omega]
    congr 1
    · refine sumTo_congr _ (fun v _ => ?_)
      rw [Nat.mul_comm 2 u, Nat.mul_assoc, show 2 * 2 ^ r = 2 ^ r + 2 ^ r by omega]
    · refine sumTo_congr _ (fun v _ => ?_)
      rw [show (2 * u + 1) * 2 ^ r + v = u * (2 ^ r + 2 ^ r) + (2 ^ r + v) by rw [Nat.add_mul, Nat.one_mul, Nat.mul_comm 2 u, Nat.mul_assoc, show 2 * 2 ^ r = 2 ^ r + 2 ^ r by omega, Nat.add_assoc]]

theorem sum_parts (N x M R : Nat) (hx : x < N) : ∀ e, sumTo (fun v => if v < N then (if v = x then M else 0) else R) (N + e) = M + e * R
  | 0 => by
    rw [Nat.add_zero, sumTo_congr (h := fun v => if v = x then M else 0) _ (fun k hk => by rw [if_pos hk]), sumTo_one, if_pos hx]
    omega
  | e + 1 => by
    rw [← Nat.add_assoc]
    unfold sumTo
    rw [sum_parts N x M R hx e, if_neg (by omega), Nat.add_mul, Nat.one_mul, Nat.add_assoc]

theorem pc_round (S N x n e : Nat) (hS : 1 ≤ S) (hx : x < N) (he : 2 ^ S = N + e) (hn : S ≤ n) : pc S N x n S 0 = 2 ^ (n - S) + e * pc S N x (n - S) S 0 := by
  rw [pc_run S N x S n 0 hn, ← sum_parts N x _ _ hx e, ← he]
  refine sumTo_congr _ (fun v _ => ?_)
  rw [Nat.zero_mul, Nat.zero_add]
  by_cases h : v < N
  · rw [if_pos h, pc_done _ _ _ _ _ h]
  · rw [if_neg h, pc_again _ _ _ _ _ hS (by omega)]

theorem pc_same (S N e : Nat) (hS : 1 ≤ S) (he : 2 ^ S = N + e) (x y : Nat) (hx : x < N) (hy : y < N) : ∀ m n, n ≤ m → pc S N x n S 0 = pc S N y n S 0
  | 0, n, h => by rw [pc_short _ _ _ _ _ _ (by omega), pc_short _ _ _ _ _ _ (by omega)]
  | m + 1, n, h => by
    by_cases hn : S ≤ n
    · rw [pc_round S N x n e hS hx he hn, pc_round S N y n e hS hy he hn, pc_same S N e hS he x y hx hy m (n - S) (by omega)]
    · rw [pc_short _ _ _ _ _ _ (by omega), pc_short _ _ _ _ _ _ (by omega)]

theorem pc_pos (S N e : Nat) (hS : 1 ≤ S) (he : 2 ^ S = N + e) (x n : Nat) (hx : x < N) (hn : S ≤ n) : 1 ≤ pc S N x n S 0 := by
  rw [pc_round S N x n e hS hx he hn]
  have := Nat.two_pow_pos (n - S)
  omega

/-- The number of the first r bits behind u. -/
def rv : Nat → Nat → Nat → Nat
  | 0, u, _ => u
  | r + 1, u, k => rv r (2 * u + k % 2) (k / 2)
theorem rv_end : ∀ r u k, rv (r + 1) u k = 2 * rv r u k + k / 2 ^ r % 2
  | 0, u, k => by simp [rv]
  | r + 1, u, k => by
    show rv (r + 1) (2 * u + k % 2) (k / 2) = 2 * rv r (2 * u + k % 2) (k / 2) + _
    rw [rv_end r, Nat.div_div_eq_div_mul, show 2 * 2 ^ r = 2 ^ (r + 1) by rw [Nat.pow_succ, Nat.mul_comm]]
theorem pk_run (S N : Nat) : ∀ r n u k, r ≤ n → pk S N n r u k = pk S N (n - r) 0 (rv r u k) (k / 2 ^ r)
  | 0, n, u, k, _ => by simp [rv]
  | r + 1, 0, u, k, h => by omega
  | r + 1, n + 1, u, k, h => by
    rw [pk, pk_run S N r n _ _ (by omega), Nat.div_div_eq_div_mul, show 2 * 2 ^ r = 2 ^ (r + 1) by rw [Nat.pow_succ, Nat.mul_comm], show n + 1 - (r + 1) = n - r by omega]
    rfl
theorem val_rv (k n a : Nat) : ∀ j, a + j ≤ n → val (rowOf k) n a j = (rv j 0 (k / 2 ^ a) : Nat)
  | 0, _ => rfl
  | j + 1, h => by
    rw [rv_end, Nat.div_div_eq_div_mul, ← Nat.pow_add]
    show 2 * val (rowOf k) n a j + bitAt (rowOf k) n (a + j) = _
    rw [val_rv k n a j (by omega)]
    unfold bitAt
    rw [if_pos (by omega)]
    unfold rowOf
    push_cast
    rfl

/-- A pick's outcome in one word. -/
def pkTell (r : Int × Nat × Bool) : Option Nat := if r.2.2 then none else some r.1.toNat

theorem pick_pk (k n S N : Nat) (hS : 1 ≤ S) : ∀ g a, a ≤ n → n < a + g → pkTell (pickS (rowOf k) n S N g a) = pk S N (n - a) S 0 (k / 2 ^ a)
  | 0, a, h1, h2 => by omega
  | g + 1, a, h1, h2 => by
    unfold pickS
    by_cases hs : n < a + S
    · rw [pk_short _ _ _ _ _ _ (by omega)]
      by_cases hv : val (rowOf k) n a S < N
      · rw [if_pos hv]; simp [pkTell, hs]
      · rw [if_neg hv, if_pos hs]; rfl
    · rw [pk_run S N S (n - a) 0 _ (by omega), val_rv k n a S (by omega), Nat.div_div_eq_div_mul, ← Nat.pow_add]
      by_cases hv : rv S 0 (k / 2 ^ a) < N
      · rw [if_pos (by omega), pk_done _ _ _ _ _ hv]
        simp [pkTell, hs]
      · rw [if_neg (by omega), if_neg hs, pk_again _ _ _ _ _ hS (by omega), pick_pk k n S N hS g (a + S) (by omega) (by omega), Nat.sub_sub]
end Go.Proofs.YtjjfkidddjcdcaaDoor
