/- Proved here: plain facts of picks one behind the other, by which an order is made; no program in sight. Conditions: as each theorem says. -/
import Derived.Test.YtjjfkidddjcdcaaDoorPickAt
import Derived.Test.YtjjfkidddjcdcaaDoorCmp
namespace Go.Proofs.YtjjfkidddjcdcaaDoor
open Go.ChangeShapes Go.WideShapes Go.ChangeAt Go.RowKit

/-- How many bits a pick of N takes at once. -/
def szOf (N : Nat) : Nat := bl (N - 1)
theorem szOf_low (N : Nat) (hN : 1 ≤ N) : ∀ j, j < szOf N → (2 : Int) ^ j < (N : Int) := fun j hj => by
  have h := le_of_bl hj
  rw [pow_cast]
  omega
theorem szOf_high (N : Nat) (hN : 1 ≤ N) : (N : Int) ≤ (2 : Int) ^ szOf N := by
  have h : N - 1 < 2 ^ szOf N := lt_bl (N - 1)
  rw [pow_cast]
  omega
theorem szOf_le (N : Nat) (hN2 : N ≤ 1000000) : szOf N ≤ 20 := bl_le (by omega)

theorem pickS_range (f : Nat → Int) (n S : Nat) (N : Int) (hN : 1 ≤ N) (hok : ∀ j, j < n → OkBit (f j)) : ∀ (g a : Nat), a ≤ n → 0 ≤ (pickS f n S N g a).1 ∧ (pickS f n S N g a).1 < N ∧ (pickS f n S N g a).2.1 ≤ n ∧ ((pickS f n S N g a).2.2 = true → (pickS f n S N g a).2.1 = n)
  | 0, a, _ => by unfold pickS; exact ⟨by simp, by simp; omega, by simp, by simp⟩
  | g + 1, a, ha => by
    have hv := val_bound f n a hok S
    unfold pickS
    split
    · refine ⟨hv.1, by assumption, by simp; omega, fun h => ?_⟩
      have := of_decide_eq_true h
      simp; omega
    · split
      · exact ⟨by simp, by simp; omega, by simp, by simp⟩
      · exact pickS_range f n S N hN hok g (a + S) (by omega)

def swapF (s : Nat → Int) (i k : Nat) : Nat → Int := fun j => if j = k then s i else if j = i then s k else s j

/-- How an order of i + 1 .. is made: what it is at last, where it stops, whether it fell short. -/
def deckS (f : Nat → Int) (n : Nat) : Nat → Nat → (Nat → Int) → (Nat → Int) × Nat × Bool
  | 0, a, s => (s, a, false)
  | i + 1, a, s =>
    if (pickS f n (szOf (i + 2)) ((i + 2 : Nat) : Int) (n + 1) a).2.2 then (s, n, true)
    else deckS f n i (pickS f n (szOf (i + 2)) ((i + 2 : Nat) : Int) (n + 1) a).2.1 (swapF s (i + 1) (pickS f n (szOf (i + 2)) ((i + 2 : Nat) : Int) (n + 1) a).1.toNat)

/-- Block D holds these integers, at the least N of them. -/
def Cards (w : World) (D N : Nat) (s : Nat → Int) : Prop := ∃ cur : Array Value, Whole w D 3 cur ∧ N ≤ cur.size ∧ ∀ j, j < N → cur[j]? = some (.int .i64 (s j))

theorem Cards.cell {w : World} {D N : Nat} {s : Nat → Int} (h : Cards w D N s) (j : Nat) (hj : j < N) : w.cell? ⟨D, j, none⟩ = some (.int .i64 (s j)) := by
  obtain ⟨cur, hw, _, hc⟩ := h
  rw [hw.cell]; exact hc j hj
theorem Cards.frozen {w : World} {D N : Nat} {s : Nat → Int} (h : Cards w D N s) (j : Nat) : w.frozen? ⟨D, j, none⟩ = false := by
  obtain ⟨cur, hw, _⟩ := h
  exact hw.frozen j
theorem Cards.lt {w : World} {D N : Nat} {s : Nat → Int} (h : Cards w D N s) : D < w.heap.size := by
  obtain ⟨cur, hw, _⟩ := h
  exact hw.lt
theorem Cards.drewN {w : World} {D N : Nat} {s : Nat → Int} (h : Cards w D N s) (q : Nat) : Cards (w.drewN q) D N s := h
theorem Cards.drew {w : World} {D N : Nat} {s : Nat → Int} (h : Cards w D N s) : Cards w.drew D N s := h
theorem Cards.below {w w' : World} {B D N : Nat} {s : Nat → Int} (h : Cards w D N s) (hb : Below B w w') (hD : D < B) : Cards w' D N s := by
  obtain ⟨cur, hw, h2⟩ := h
  exact ⟨cur, hw.below hb hD, h2⟩
theorem Cards.grown {w w' : World} {D N t : Nat} {s : Nat → Int} (h : Cards w D N s) (hb : w.grownBy w' (some t)) (hD : D ≠ t) : Cards w' D N s := by
  obtain ⟨cur, hw, h2⟩ := h
  exact ⟨cur, hw.grown hb (by intro e; injection e with e; exact hD e), h2⟩
theorem Cards.far {w : World} {D N : Nat} {s : Nat → Int} (h : Cards w D N s) {p : Addr} (hp : D ≠ p.block) (u : Value) : Cards (w.setCell p u) D N s := by
  obtain ⟨cur, hw, h2⟩ := h
  exact ⟨cur, hw.far hp u, h2⟩
theorem To.far {w wr : World} {t D n c a : Nat} {A : Option Addr} {sh : Bool} (h : To w wr t A n c a sh) {p : Addr} (hp : D = p.block) (h1 : w.heap.size ≤ D) (h2 : t ≠ D) (u : Value) : To w (wr.setCell p u) t A n c a sh := by
  subst hp
  exact ⟨h.1.far h2 u, grown_new h.2 h1 u⟩
theorem To.drew {w wr : World} {t n c a : Nat} {A : Option Addr} {sh : Bool} (h : To w wr t A n c a sh) : To w wr.drew t A n c a sh := ⟨h.1, grown_drew h.2⟩
theorem Cards.swap {w : World} {D N : Nat} {s : Nat → Int} (h : Cards w D N s) (i k : Nat) (hi : i < N) (hk : k < N) :
    Cards ((w.setCell ⟨D, i, none⟩ (.int .i64 (s k))).setCell ⟨D, k, none⟩ (.int .i64 (s i))) D N (swapF s i k) := by
  obtain ⟨cur, hw, h1, h2⟩ := h
  refine ⟨_, (hw.set i _).set k _, by simpa using h1, fun j hj => ?_⟩
  unfold swapF
  by_cases e1 : j = k
  · subst e1
    rw [if_pos rfl, Array.getElem?_setIfInBounds_self_of_lt (by simp; omega)]
  · rw [if_neg e1, Array.getElem?_setIfInBounds_ne (by omega)]
    by_cases e2 : j = i
    · subst e2
      rw [if_pos rfl, Array.getElem?_setIfInBounds_self_of_lt (by omega)]
    · rw [if_neg e2, Array.getElem?_setIfInBounds_ne (by omega)]
      exact h2 j hj
theorem Cards.row {w : World} {D N : Nat} {s : Nat → Int} (h : Cards w D N s) : Row w (some ⟨D, 0, none⟩) N s := fun _ =>
  ⟨D, 0, rfl, h.lt, fun j hj => by rw [Nat.zero_add]; exact h.cell j hj⟩
theorem Cards.of_own {w : World} {B N : Nat} {s : Nat → Int} {v : Value} (h : w.ownsRow B 3 1 v N ((List.range N).map fun j => .int .i64 (s j))) (hN : 0 < N) : ∃ D c, v = .slice (some ⟨D, 0, none⟩) N c ∧ B ≤ D ∧ N ≤ c ∧ Cards w D N s := by
  rcases h.2 with ⟨_, h0⟩ | ⟨D, c, cur, rfl, hB, hw, h1, _, h2, h3⟩
  · omega
  · refine ⟨D, c, rfl, hB, h1, cur, hw, by omega, fun j hj => ?_⟩
    have e : cur.toList[j]? = (cur.toList.take (N * 1))[j]? := by rw [List.getElem?_take, if_pos (by omega)]
    rw [← Array.getElem?_toList, e, h3, List.getElem?_map, List.getElem?_range hj]
    rfl
end Go.Proofs.YtjjfkidddjcdcaaDoor
