/- Proved here: back of a transform modulo 998244353 is the row, for rows of 1, 2, .., 64 numbers below it; the transform of a sum is the sum; no program in sight. Conditions: as each theorem says. -/
import Derived.Test.YtgeebjfbcjhifaaDoorWaveEval
namespace Go.Proofs.YtgeebjfbcjhifaaDoor
def unitR (j : Nat) : Nat → Nat := fun k => if k = j then 1 else 0
theorem unit_low (p j : Nat) (hp : 1 < p) : Low p (unitR j) := fun k => by unfold unitR; split <;> omega
theorem wv_unit (j : Nat) : ∀ n, wv (unitR j) n = if j < n then 2 ^ (32 * j) else 0
  | 0 => rfl
  | n + 1 => by
    unfold wv
    rw [wv_unit j n]
    unfold unitR
    by_cases e : n = j
    · subst e; simp
    · rw [if_neg e]
      by_cases h : j < n
      · rw [if_pos h, if_pos (by omega)]; simp
      · rw [if_neg h, if_neg (by omega)]; simp
theorem unit_back (lg j k : Nat) (hl : lg ≤ 6) (hj : j < 2 ^ lg) (hk : k < 2 ^ lg) : modS 998244353 true lg (modS 998244353 false lg (unitR j)) k = unitR j k := by
  have hp : 998244353 ≤ 2 ^ 32 := by decide
  have h1 := unit_low 998244353 j (by decide)
  have e1 : modS 998244353 false lg (unitR j) = wheelS 998244353 false lg (unitR j) := rfl
  have h2 : Low 998244353 (wheelS 998244353 false lg (unitR j)) := Low.wheelS (by decide) false lg h1
  have h3 : Low 998244353 (wheelS 998244353 true lg (wheelS 998244353 false lg (unitR j))) := Low.wheelS (by decide) true lg h2
  have h4 : Low 998244353 (modS 998244353 true lg (modS 998244353 false lg (unitR j))) := Low.modS (by decide) _ _ (Low.modS (by decide) _ _ h1)
  have key := end_all lg j hl hj
  unfold endN at key
  simp only [forceN_eq] at key
  rw [show 2 ^ (32 * j) = wv (unitR j) (2 ^ lg) by rw [wv_unit, if_pos hj], wheelN_wv hp (by decide) hl forth_ok h1, wheelN_wv hp (by decide) hl back_ok h2, scaleN_wv hp _ h3 _ (Nat.le_refl _)] at key
  exact wv_inj (low32 hp h4 _) (low32 hp h1 _) key k hk

theorem turnS_congr {lg : Nat} {l l' : Nat → Nat} : ∀ (i : Nat), (∀ j, j < i → l j = l' j) → turnS lg l i = turnS lg l' i
  | 0, _ => rfl
  | i + 1, h => by
    unfold turnS
    rw [turnS_congr i (fun j hj => h j (by omega)), h i (by omega)]
theorem modS_congr {p lg : Nat} {back : Bool} {l l' : Nat → Nat} (h : ∀ j, j < 2 ^ lg → l j = l' j) : modS p back lg l = modS p back lg l' := by
  unfold modS wheelS
  rw [turnS_congr _ h]
theorem sum_unit (a : Nat → Int) (k : Nat) : ∀ n, sumTo (fun j => a j * (unitR j k : Int)) n = if k < n then a k else 0
  | 0 => rfl
  | n + 1 => by
    unfold sumTo
    rw [sum_unit a k n]
    unfold unitR
    by_cases e : k = n
    · subst e; simp
    · rw [if_neg e]
      by_cases h : k < n
      · rw [if_pos h, if_pos (by omega)]; simp
      · rw [if_neg h, if_neg (by omega)]; simp
/-- Back of a transform is the row. -/
theorem back_forth (lg : Nat) (hl : lg ≤ 6) (a : Nat → Nat) (ha : ∀ j, j < 2 ^ lg → a j < 998244353) (k : Nat) (hk : k < 2 ^ lg) : modS 998244353 true lg (modS 998244353 false lg a) k = a k := by
  obtain ⟨b, hb⟩ : ∃ b : Nat → Nat, b = fun j => if j < 2 ^ lg then a j else 0 := ⟨_, rfl⟩
  have hab : ∀ j, j < 2 ^ lg → a j = b j := fun j hj => by rw [hb]; simp only [if_pos hj]
  have hlow : Low 998244353 b := fun j => by
    rw [hb]
    by_cases h : j < 2 ^ lg
    · simp only [if_pos h]; exact ha j h
    · simp only [if_neg h]; decide
  have h0 : Lin 998244353 (2 ^ lg) (fun j => (b j : Int)) b unitR := fun k => ⟨0, by
    rw [sum_unit, Int.mul_zero, Int.add_zero]
    by_cases h : k < 2 ^ lg
    · rw [if_pos h]
    · rw [if_neg h, hb]; simp only [if_neg h]; rfl⟩
  have h1 := Lin.modS (by decide) true lg (Lin.modS (by decide) false lg h0)
  obtain ⟨q, hq⟩ := h1 k
  rw [sumTo_congr (g := fun j => (b j : Int) * (unitR j k : Int)) _ (fun j hj => by show (b j : Int) * ((modS 998244353 true lg (modS 998244353 false lg (unitR j)) k : Nat) : Int) = _; rw [unit_back lg j k hl hj hk]), sum_unit, if_pos hk] at hq
  rw [modS_congr hab, hab k hk]
  have h2 : modS 998244353 true lg (modS 998244353 false lg b) k < 998244353 := Low.modS (by decide) _ _ (Low.modS (by decide) _ _ hlow) k
  have h3 := hlow k
  omega
/-- The transform of a sum is the sum of the transforms. -/
theorem sum_forth (p lg : Nat) (hp : 0 < p) (back : Bool) (a b c : Nat → Nat) (h : ∀ j, j < 2 ^ lg → c j = (a j + b j) % p) (k : Nat) (hlow : modS p back lg c k < p) : modS p back lg c k = (modS p back lg a k + modS p back lg b k) % p := by
  have h0 : Lin p 2 (fun _ => 1) (fun j => (a j + b j) % p) (fun j => if j = 0 then a else b) := fun k => ⟨-(((a k + b k) / p : Nat) : Int), by
    show (((a k + b k) % p : Nat) : Int) = _
    rw [mod_eq, Int.mul_neg]
    generalize (p : Int) * (((a k + b k) / p : Nat) : Int) = z
    simp [sumTo]
    omega⟩
  obtain ⟨q, hq⟩ := Lin.modS hp back lg h0 k
  rw [← modS_congr h] at hq
  simp [sumTo] at hq
  have e : ((modS p back lg c k % p : Nat) : Int) = (((modS p back lg a k + modS p back lg b k) % p : Nat) : Int) := by
    rw [Int.natCast_emod, Int.natCast_emod, Int.natCast_add, hq, Int.add_mul_emod_self_left]
  have e2 : modS p back lg c k % p = (modS p back lg a k + modS p back lg b k) % p := Int.ofNat.inj e
  rw [← e2, Nat.mod_eq_of_lt hlow]
end Go.Proofs.YtgeebjfbcjhifaaDoor
