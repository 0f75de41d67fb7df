/- Proved here: what flips and picks of all rows of ten bits say, as ChanceOften counts them. Conditions: as each theorem says. -/
import Derived.Test.YtjjfkidddjcdcaaDoorOftenPlain
import Derived.Laws.MakeOwn
namespace Go.Proofs.YtjjfkidddjcdcaaDoor
open Go.ChangeShapes Go.WideShapes Go.ChangeAt Go.RowKit

/-- Of row k: 0 not, 1 yes, 2 open. -/
def fr (p q : Int) (k : Nat) : Nat := if p = q then 1 else if p = 0 then 0 else fl q 10 p k
def cf (p q : Int) (z m : Nat) : Nat := sumTo (fun k => if fr p q k = z then 1 else 0) m

theorem cf_all (p q : Int) (hq : 1 ≤ q) (hp : 0 ≤ p) (hpq : p ≤ q) : (cf p q 1 1024 : Int) * q ≤ p * 1024 ∧ p * 1024 ≤ ((cf p q 1 1024 : Int) + cf p q 2 1024) * q ∧ cf p q 2 1024 ≤ 1 := by
  by_cases h : p = q
  · have e : ∀ z, cf p q z 1024 = if 1 = z then 1024 else 0 := fun z => by
      rw [← sum_same]; exact sumTo_congr _ (fun k _ => by unfold fr; rw [if_pos h])
    rw [e, e, h]
    refine ⟨?_, ?_, ?_⟩ <;> (try simp) <;> omega
  · by_cases h0 : p = 0
    · have e : ∀ z, cf p q z 1024 = if 0 = z then 1024 else 0 := fun z => by
        rw [← sum_same]; exact sumTo_congr _ (fun k _ => by unfold fr; rw [if_neg h, if_pos h0])
      rw [e, e, h0]
      simp
    · have e : ∀ z, cf p q z 1024 = flc q z 10 p := fun z => sumTo_congr _ (fun k _ => by unfold fr; rw [if_neg h, if_neg h0])
      rw [e, e]
      exact fl_counts q hq 10 p hp hpq

/-- How many bits a pick of N takes at a time, N at most 40. -/
def sz (N : Nat) : Nat := if N ≤ 1 then 0 else if N ≤ 2 then 1 else if N ≤ 4 then 2 else if N ≤ 8 then 3 else if N ≤ 16 then 4 else if N ≤ 32 then 5 else 6
theorem sz_ok : ∀ N, N ≤ 40 → (∀ j, j < sz N → 2 ^ j < N) ∧ N ≤ 2 ^ sz N ∧ sz N ≤ 6 ∧ (1 < N → 1 ≤ sz N) := by decide

def pr (N k : Nat) : Option Nat := if N = 1 then some 0 else pk (sz N) N 10 (sz N) 0 k
def cp (N x m : Nat) : Nat := sumTo (fun k => if pr N k = some x then 1 else 0) m

theorem cp_all (N x : Nat) (hN : 1 ≤ N) (hN2 : N ≤ 40) (hx : x < N) : cp N x 1024 = cp N 0 1024 ∧ 1 ≤ cp N x 1024 := by
  by_cases h : N = 1
  · obtain rfl : x = 0 := by omega
    refine ⟨rfl, ?_⟩
    unfold cp pr
    simp only [if_pos h]
    rw [sumTo_congr (h := fun _ => 1) _ (fun k _ => by simp), sumTo_const]
    decide
  · unfold cp pr
    simp only [if_neg h]
    obtain ⟨_, h2, h3, h4⟩ := sz_ok N hN2
    have he : 2 ^ sz N = N + (2 ^ sz N - N) := by omega
    exact ⟨pc_same _ N _ (h4 (by omega)) he x 0 hx (by omega) 10 10 (by omega), pc_pos _ N _ (h4 (by omega)) he x 10 hx (by omega)⟩

theorem rowOf_ok (k j : Nat) : OkBit (rowOf k j) := by
  unfold rowOf OkBit
  rcases Nat.mod_two_eq_zero_or_one (k / 2 ^ j) with e | e <;> rw [e]
  · exact .inl rfl
  · exact .inr rfl

/-- What a call of Flip tells of row k. -/
def FlipTold (p q : Int) (k : Nat) (x1 : Bool) (x3 : Int) : Prop := (fr p q k = 2 ∧ x3 = 9) ∨ (fr p q k = 1 ∧ x3 = 0 ∧ x1 = true) ∨ (fr p q k = 0 ∧ x3 = 0 ∧ x1 = false)

theorem flip_row (p q : Int) (k c : Nat) (A : Option Addr) (hq : 1 ≤ q) (hq2 : q ≤ 40) (hp : 0 ≤ p) (hpq : p ≤ q) : ∃ (x1 : Bool) (x2 x3 x4 : Int), FlipTold p q k x1 x3 ∧ ∀ w, Row w A 10 (rowOf k) →
    Calls Tryd.prog 10 #[.int .i64 p, .int .i64 q, .slice A 10 c] w fun e w' => e = .returned (.tuple #[.bool x1, .int .i64 x2, .agg #[.int .i64 x3, .int .i64 x4]]) ∧ Below w.heap.size w w' := by
  by_cases h : p = q
  · exact ⟨true, 0, 0, 0, .inr (.inl ⟨by unfold fr; rw [if_pos h], rfl, rfl⟩), fun w hR => flip_all p q 10 c A (rowOf k) w (by omega) hR (fun j _ => rowOf_ok k j) h (by omega) (by omega)⟩
  by_cases h0 : p = 0
  · exact ⟨false, 0, 0, 0, .inr (.inr ⟨by unfold fr; rw [if_neg h, if_pos h0], rfl, rfl⟩), fun w hR => flip_none p q 10 c A (rowOf k) w (by omega) hR (fun j _ => rowOf_ok k j) h0 (by omega) (by omega)⟩
  have hf : fr p q k = flCode (flipS (rowOf k) q 10 0 p) := by
    unfold fr
    rw [if_neg h, if_neg h0, flip_fl, Nat.pow_zero, Nat.div_one]
  obtain ⟨v, a, s, hres⟩ : ∃ v a s, flipS (rowOf k) q 10 0 p = (v, a, s) := ⟨_, _, _, rfl⟩
  rw [hres] at hf
  cases s
  · refine ⟨v, a, 0, 0, ?_, fun w hR => flip_mid p q 10 c A (rowOf k) w (by omega) hR (fun j _ => rowOf_ok k j) (by omega) (by omega) (by omega) v false a hres v a 0 0 rfl⟩
    cases v
    · exact .inr (.inr ⟨hf, rfl, rfl⟩)
    · exact .inr (.inl ⟨hf, rfl, rfl⟩)
  · exact ⟨false, 0, 9, 10, .inl ⟨hf, rfl⟩, fun w hR => flip_mid p q 10 c A (rowOf k) w (by omega) hR (fun j _ => rowOf_ok k j) (by omega) (by omega) (by omega) v true a hres false 0 9 10 rfl⟩

/-- What a call of Pick tells of row k. -/
def PickTold (N k : Nat) (x1 x3 : Int) : Prop := (pr N k = none ∧ x3 = 9) ∨ (∃ v : Nat, v < N ∧ pr N k = some v ∧ x3 = 0 ∧ x1 = v)

theorem pickS_bound (f : Nat → Int) (n S : Nat) (N : Int) (hok : ∀ j, j < n → OkBit (f j)) : ∀ g a v b, pickS f n S N g a = (v, b, false) → 0 ≤ v ∧ v < N
  | 0, a, v, b, h => by unfold pickS at h; simp at h
  | g + 1, a, v, b, h => by
    unfold pickS at h
    by_cases hv : val f n a S < N
    · rw [if_pos hv] at h
      simp only [Prod.mk.injEq] at h
      rw [← h.1]
      exact ⟨(val_bound f n a hok S).1, hv⟩
    · rw [if_neg hv] at h
      by_cases hs : n < a + S
      · rw [if_pos hs] at h; simp at h
      · rw [if_neg hs] at h
        exact pickS_bound f n S N hok g _ v b h

theorem pick_row (N k c : Nat) (A : Option Addr) (hN : 1 ≤ N) (hN2 : N ≤ 40) : ∃ (x1 x2 x3 x4 : Int), PickTold N k x1 x3 ∧ ∀ w, Row w A 10 (rowOf k) →
    Calls Tryd.prog 11 #[.int .i64 N, .slice A 10 c] w fun e w' => e = .returned (.tuple #[.int .i64 x1, .int .i64 x2, .agg #[.int .i64 x3, .int .i64 x4]]) ∧ Below w.heap.size w w' := by
  obtain ⟨h1, h2, h3, h4⟩ := sz_ok N hN2
  have hS1 : Hid (∀ j, j < sz N → (2 : Int) ^ j < N) := fun j hj => by rw [pow_cast]; exact Int.ofNat_lt.2 (h1 j hj)
  have hS2 : Hid ((N : Int) ≤ (2 : Int) ^ sz N) := by show _ ≤ _; rw [pow_cast]; exact Int.ofNat_le.2 h2
  obtain ⟨v, a, s, hres⟩ : ∃ v a s, pickS (rowOf k) 10 (sz N) N (10 + 1) 0 = (v, a, s) := ⟨_, _, _, rfl⟩
  have hok : ∀ j, j < 10 → OkBit (rowOf k j) := fun j _ => rowOf_ok k j
  have hp : pr N k = pkTell (v, a, s) := by
    unfold pr
    by_cases h : N = 1
    · subst h
      have : pickS (rowOf k) 10 (sz 1) (1 : Nat) (10 + 1) 0 = (0, 0, false) := rfl
      rw [this] at hres
      rw [if_pos rfl, ← hres]
      rfl
    · rw [if_neg h, ← hres, pick_pk k 10 (sz N) N (h4 (by omega)) 11 0 (by omega) (by omega), Nat.pow_zero, Nat.div_one]
  cases s
  · obtain ⟨b1, b2⟩ := pickS_bound _ _ _ _ hok _ _ _ _ hres
    exact ⟨v, a, 0, 0, .inr ⟨v.toNat, by omega, hp, rfl, by omega⟩, fun w hR => pick_mid N (sz N) 10 c A (rowOf k) w (by omega) hR hok (by omega) (by omega) (by omega) hS1 hS2 v false a hres v a 0 0 rfl⟩
  · exact ⟨0, 0, 9, 10, .inl ⟨hp, rfl⟩, fun w hR => pick_mid N (sz N) 10 c A (rowOf k) w (by omega) hR hok (by omega) (by omega) (by omega) hS1 hS2 v true a hres 0 0 9 10 rfl⟩
end Go.Proofs.YtjjfkidddjcdcaaDoor
