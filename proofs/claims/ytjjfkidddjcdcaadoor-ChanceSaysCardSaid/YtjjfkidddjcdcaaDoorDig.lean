/- Proved here: plain facts on memory in the model's words: a block that is known whole, what has turned beside it, a row of integers. Conditions: as each theorem says.
   Proved here: plain facts on the digits (base 2^32) of a number. Conditions: as each theorem says. -/
import Derived.Below
import Derived.OwnWalk
import Derived.Laws.OwnMore
import Derived.Laws.Rows
import Derived.Deep.Draws
namespace Go.Proofs.YtjjfkidddjcdcaaDoor
open Go.RowKit

/-- Block g is just these cells. -/
def Whole (w : World) (g : Nat) (ty : TypeId) (cs : Array Value) : Prop := w.heap[g]? = some (.cells cs ty (0, 0))

theorem Whole.lt {w : World} {g : Nat} {ty : TypeId} {cs : Array Value} (h : Whole w g ty cs) : g < w.heap.size := by
  unfold Whole at h
  rcases Nat.lt_or_ge g w.heap.size with h1 | h1
  · exact h1
  · rw [Array.getElem?_eq_none h1] at h; cases h
theorem Whole.cell {w : World} {g : Nat} {ty : TypeId} {cs : Array Value} (h : Whole w g ty cs) (i : Nat) : w.cell? ⟨g, i, none⟩ = cs[i]? := cell_of_row w g i cs ty (0, 0) h
theorem Whole.frozen {w : World} {g : Nat} {ty : TypeId} {cs : Array Value} (h : Whole w g ty cs) (i : Nat) : w.frozen? ⟨g, i, none⟩ = false := by
  unfold Whole at h
  simp [World.frozen?, h]
theorem Whole.drewN {w : World} {g : Nat} {ty : TypeId} {cs : Array Value} (h : Whole w g ty cs) (n : Nat) : Whole (w.drewN n) g ty cs := h
theorem Whole.set {w : World} {g : Nat} {ty : TypeId} {cs : Array Value} (h : Whole w g ty cs) (i : Nat) (u : Value) : Whole (w.setCell ⟨g, i, none⟩ u) g ty (cs.setIfInBounds i u) := by
  unfold Whole at h ⊢
  simp [World.setCell, Array.getElem?_modify, h]
theorem Whole.alloc {w : World} {g : Nat} {ty : TypeId} {cs : Array Value} (h : Whole w g ty cs) (o : Obj) : Whole (w.alloc o) g ty cs := (Below.heap_alloc w o g h.lt).trans h
theorem Whole.far {w : World} {g : Nat} {ty : TypeId} {cs : Array Value} (h : Whole w g ty cs) {p : Addr} (hp : g ≠ p.block) (u : Value) : Whole (w.setCell p u) g ty cs := (Below.heap_setCell w p u g hp).trans h
theorem Whole.new (w : World) (ty : TypeId) (cs : Array Value) (g : Nat) (hg : g = w.heap.size) : Whole (w.alloc (.cells cs ty)) g ty cs := by
  subst hg; exact heap_alloc_new w _
theorem Whole.below {w w' : World} {B g : Nat} {ty : TypeId} {cs : Array Value} (h : Whole w g ty cs) (hb : Below B w w') (hg : g < B) : Whole w' g ty cs := (hb.block g hg).trans h
theorem Whole.grown {w w' : World} {row : Option Nat} {g : Nat} {ty : TypeId} {cs : Array Value} (h : Whole w g ty cs) (hb : w.grownBy w' row) (hg : some g ≠ row) : Whole w' g ty cs := (hb.block g h.lt hg).trans h

theorem grown_refl (w : World) (row : Option Nat) : w.grownBy w row := ⟨rfl, rfl, rfl, Nat.le_refl _, fun _ _ _ => rfl⟩
theorem grown_trans {a b c : World} {row : Option Nat} (h : a.grownBy b row) (k : b.grownBy c row) : a.grownBy c row :=
  ⟨k.os.trans h.os, k.tape.trans h.tape, k.output.trans h.output, Nat.le_trans h.size k.size, fun i hi hne => (k.block i (Nat.lt_of_lt_of_le hi h.size) hne).trans (h.block i hi hne)⟩
theorem grown_drewN {a w : World} {row : Option Nat} (h : a.grownBy w row) (n : Nat) : a.grownBy (w.drewN n) row := ⟨h.os, h.tape, h.output, h.size, h.block⟩
theorem grown_drew {a w : World} {row : Option Nat} (h : a.grownBy w row) : a.grownBy w.drew row := ⟨h.os, h.tape, h.output, h.size, h.block⟩
theorem grown_set {a w : World} {g : Nat} (h : a.grownBy w (some g)) (i : Nat) (u : Value) : a.grownBy (w.setCell ⟨g, i, none⟩ u) (some g) :=
  ⟨h.os, h.tape, h.output, by simpa [World.setCell] using h.size, fun j hj hne => (Below.heap_setCell w ⟨g, i, none⟩ u j (by intro e; exact hne (by rw [e]))).trans (h.block j hj hne)⟩
theorem grown_alloc {a w : World} {row : Option Nat} (h : a.grownBy w row) (o : Obj) : a.grownBy (w.alloc o) row :=
  ⟨h.os, h.tape, h.output, Nat.le_trans h.size (by simp), fun i hi hne => (Below.heap_alloc w o i (Nat.lt_of_lt_of_le hi h.size)).trans (h.block i hi hne)⟩
theorem grown_new {a w : World} {row : Option Nat} (h : a.grownBy w row) {p : Addr} (hp : a.heap.size ≤ p.block) (u : Value) : a.grownBy (w.setCell p u) row :=
  ⟨h.os, h.tape, h.output, by simpa [World.setCell] using h.size, fun j hj hne => (Below.heap_setCell w p u j (by omega)).trans (h.block j hj hne)⟩
theorem grown_below {a w w' : World} {row : Option Nat} (h : a.grownBy w row) (hb : Below w.heap.size w w') : a.grownBy w' row :=
  grown_trans h ⟨hb.os, hb.tape, hb.output, hb.size, fun i hi _ => hb.block i hi⟩
theorem below_of_grown {a w : World} {g : Nat} (h : a.grownBy w (some g)) (B : Nat) (hB : B ≤ g) (hB2 : B ≤ a.heap.size) : Below B a w :=
  ⟨h.os, h.tape, h.output, h.size, fun i hi => h.block i (by omega) (fun e => by injection e with e; omega)⟩

/-- A slice that holds these integers (nil, where it is empty). -/
def Row (w : World) (A : Option Addr) (n : Nat) (f : Nat → Int) : Prop :=
  0 < n → ∃ b off, A = some ⟨b, off, none⟩ ∧ b < w.heap.size ∧ ∀ j, j < n → w.cell? ⟨b, off + j, none⟩ = some (.int .i64 (f j))

/-- .. none of it in block g. -/
def Apart (A : Option Addr) (n g : Nat) : Prop := 0 < n → ∀ a, A = some a → a.block ≠ g

theorem Row.below {w w' : World} {A : Option Addr} {n : Nat} {f : Nat → Int} (h : Row w A n f) (hb : Below w.heap.size w w') : Row w' A n f := fun hn => by
  obtain ⟨b, off, e, hlt, hc⟩ := h hn
  exact ⟨b, off, e, Nat.lt_of_lt_of_le hlt hb.size, fun j hj => (hb.cell (p := ⟨b, off + j, none⟩) hlt).trans (hc j hj)⟩
theorem Row.grown {w w' : World} {A : Option Addr} {n g : Nat} {f : Nat → Int} (h : Row w A n f) (hb : w.grownBy w' (some g)) (ha : Apart A n g) : Row w' A n f := fun hn => by
  obtain ⟨b, off, e, hlt, hc⟩ := h hn
  refine ⟨b, off, e, Nat.lt_of_lt_of_le hlt hb.size, fun j hj => ?_⟩
  have hne := ha hn _ e
  exact (World.cell?_of_block (a := ⟨b, off + j, none⟩) (hb.block b hlt (fun q => hne (by injection q)))).trans (hc j hj)
theorem Row.apart {w : World} {A : Option Addr} {n g : Nat} {f : Nat → Int} (h : Row w A n f) (hg : w.heap.size ≤ g) : Apart A n g := fun hn a ha => by
  obtain ⟨b, off, e, hlt, hc⟩ := h hn
  rw [ha] at e
  injection e with e
  subst e
  show b ≠ g
  omega
end Go.Proofs.YtjjfkidddjcdcaaDoor

namespace Go.Proofs.YtjjfkidddjcdcaaDoor
open Go.RowKit

/-- 2^32 to the power of n. -/
def B (n : Nat) : Nat := 2 ^ (32 * n)
theorem B_zero : B 0 = 1 := rfl
theorem B_succ (n : Nat) : B (n + 1) = B n * 4294967296 := by
  unfold B
  rw [show 32 * (n + 1) = 32 * n + 32 by omega, Nat.pow_add]
theorem B_pos (n : Nat) : 0 < B n := Nat.two_pow_pos _
theorem B_add (m n : Nat) : B (m + n) = B m * B n := by
  unfold B
  rw [Nat.mul_add, Nat.pow_add]
theorem B_le {m n : Nat} (h : m ≤ n) : B m ≤ B n := by
  unfold B
  exact Nat.pow_le_pow_right (by omega) (by omega)
theorem B_lt_of {m n : Nat} (h : B m < B n) : m < n := by
  rcases Nat.lt_or_ge m n with h1 | h1
  · exact h1
  · have := B_le h1; omega

/-- Word i of v. -/
def dig (v i : Nat) : Nat := v / B i % 4294967296
theorem dig_lt (v i : Nat) : dig v i < 4294967296 := Nat.mod_lt _ (by omega)

/-- What n words make. -/
def wv (f : Nat → Nat) : Nat → Nat
  | 0 => 0
  | n + 1 => wv f n + f n * B n

theorem wv_succ (f : Nat → Nat) (n : Nat) : wv f (n + 1) = wv f n + f n * B n := rfl
theorem wv_congr {f g : Nat → Nat} : ∀ n, (∀ i, i < n → f i = g i) → wv f n = wv g n
  | 0, _ => rfl
  | n + 1, h => by rw [wv_succ, wv_succ, wv_congr n (fun i hi => h i (by omega)), h n (by omega)]
theorem wv_lt (f : Nat → Nat) : ∀ n, (∀ i, i < n → f i < 4294967296) → wv f n < B n
  | 0, _ => Nat.one_pos
  | n + 1, h => by
    have h1 := wv_lt f n (fun i hi => h i (by omega))
    have h2 := h n (by omega)
    rw [wv_succ, B_succ]
    have : f n * B n ≤ 4294967295 * B n := Nat.mul_le_mul_right _ (by omega)
    omega
theorem dig_top (v n : Nat) (h : v < B (n + 1)) : dig v n = v / B n := by
  unfold dig
  rw [Nat.mod_eq_of_lt]
  rw [Nat.div_lt_iff_lt_mul (B_pos n)]
  rw [B_succ] at h
  omega
theorem mod_B (v n : Nat) : v % B (n + 1) = v % B n + dig v n * B n := by
  unfold dig
  rw [B_succ, Nat.mod_mul, Nat.mul_comm (B n)]
theorem wv_dig_mod (v : Nat) : ∀ n, wv (dig v) n = v % B n
  | 0 => by rw [B_zero, Nat.mod_one]; rfl
  | n + 1 => by rw [wv_succ, wv_dig_mod v n, mod_B]
theorem wv_dig (v n : Nat) (h : v < B n) : wv (dig v) n = v := by rw [wv_dig_mod, Nat.mod_eq_of_lt h]
theorem dig_add_high (v x n i : Nat) (h : i < n) : dig (v + x * B n) i = dig v i := by
  unfold dig
  obtain ⟨k, rfl⟩ : ∃ k, n = i + (k + 1) := ⟨n - i - 1, by omega⟩
  rw [B_add, B_succ, show x * (B i * (B k * 4294967296)) = B i * (x * B k * 4294967296) by grind, Nat.add_mul_div_left _ _ (B_pos i), Nat.add_mul_mod_self_right]
theorem dig_wv (f : Nat → Nat) : ∀ n, (∀ i, i < n → f i < 4294967296) → ∀ i, i < n → dig (wv f n) i = f i
  | 0, _, i, h => by omega
  | n + 1, hf, i, h => by
    rw [wv_succ]
    by_cases hi : i = n
    · subst hi
      have h1 := wv_lt f i (fun j hj => hf j (by omega))
      unfold dig
      rw [Nat.add_mul_div_right _ _ (B_pos i), Nat.div_eq_of_lt h1, Nat.zero_add, Nat.mod_eq_of_lt (hf i (by omega))]
    · rw [dig_add_high _ _ _ _ (by omega)]
      exact dig_wv f n (fun j hj => hf j (by omega)) i (by omega)

/-- f, but x at i. -/
def upd (f : Nat → Nat) (i x : Nat) : Nat → Nat := fun j => if j = i then x else f j
theorem wv_upd_out (f : Nat → Nat) (i x : Nat) : ∀ n, n ≤ i → wv (upd f i x) n = wv f n
  | n, h => wv_congr n (fun j hj => by unfold upd; rw [if_neg (by omega)])
theorem wv_upd (f : Nat → Nat) (i x : Nat) : ∀ n, i < n → wv (upd f i x) n + f i * B i = wv f n + x * B i
  | 0, h => by omega
  | n + 1, h => by
    rw [wv_succ, wv_succ]
    by_cases hi : i = n
    · subst hi
      rw [wv_upd_out f i x i (Nat.le_refl _)]
      unfold upd
      rw [if_pos rfl]
      omega
    · have := wv_upd f i x n (by omega)
      have e : upd f i x n = f n := by unfold upd; rw [if_neg (by omega)]
      rw [e]
      omega
theorem upd_lt {f : Nat → Nat} {n i x : Nat} (h : ∀ j, j < n → f j < 4294967296) (hx : x < 4294967296) : ∀ j, j < n → upd f i x j < 4294967296 := fun j hj => by
  unfold upd
  by_cases e : j = i
  · rw [if_pos e]; exact hx
  · rw [if_neg e]; exact h j hj

/-- How many words v has. -/
def wc (v : Nat) : Nat := if v = 0 then 0 else Nat.log2 v / 32 + 1
theorem lt_wc (v : Nat) : v < B (wc v) := by
  unfold wc
  by_cases h : v = 0
  · rw [if_pos h, h]; exact Nat.one_pos
  · rw [if_neg h]
    have h1 : v < 2 ^ (Nat.log2 v + 1) := Nat.lt_log2_self
    unfold B
    exact Nat.lt_of_lt_of_le h1 (Nat.pow_le_pow_right (by omega) (by omega))
theorem wc_le {v n : Nat} (h : v < B n) : wc v ≤ n := by
  unfold wc
  by_cases h0 : v = 0
  · rw [if_pos h0]; omega
  · rw [if_neg h0]
    have h1 : 2 ^ Nat.log2 v ≤ v := Nat.log2_self_le h0
    have h2 : 2 ^ Nat.log2 v < 2 ^ (32 * n) := Nat.lt_of_le_of_lt h1 h
    have h3 := (Nat.pow_lt_pow_iff_right (a := 2) (by omega)).1 h2
    omega
theorem wc_zero : wc 0 = 0 := rfl
theorem wc_pos {v : Nat} (h : 0 < v) : 0 < wc v := by
  unfold wc
  rw [if_neg (by omega)]
  omega
theorem wc_eq {v n : Nat} (h : v < B (n + 1)) (hd : dig v n ≠ 0) : wc v = n + 1 := by
  have h1 := wc_le h
  rcases Nat.lt_or_ge n (wc v) with h2 | h2
  · omega
  · exfalso
    have h3 := lt_wc v
    have h4 := B_le h2
    apply hd
    unfold dig
    rw [Nat.div_eq_of_lt (by omega)]
theorem lt_of_dig {v n : Nat} (h : v < B (n + 1)) (hd : dig v n = 0) : v < B n := by
  rw [dig_top v n h] at hd
  rcases Nat.lt_or_ge v (B n) with h1 | h1
  · exact h1
  · have := Nat.div_pos h1 (B_pos n); omega
theorem top_dig {v n : Nat} (h : wc v = n + 1) : dig v n ≠ 0 := fun e => by
  have h1 := lt_wc v
  rw [h] at h1
  have := wc_le (lt_of_dig h1 e)
  omega
theorem le_of_wc {v n : Nat} (h : n < wc v) : B n ≤ v := by
  rcases Nat.lt_or_ge v (B n) with h1 | h1
  · have := wc_le h1; omega
  · exact h1
theorem wc_mono {u v : Nat} (h : u ≤ v) : wc u ≤ wc v := wc_le (Nat.lt_of_le_of_lt h (lt_wc v))

/-- A slice that holds these words of 32 bits (nil, where it is empty). -/
def Row32 (w : World) (A : Option Addr) (n : Nat) (f : Nat → Nat) : Prop :=
  0 < n → ∃ b off, A = some ⟨b, off, none⟩ ∧ b < w.heap.size ∧ ∀ j, j < n → w.cell? ⟨b, off + j, none⟩ = some (.int .u32 (f j))
theorem Row32.below {w w' : World} {A : Option Addr} {n : Nat} {f : Nat → Nat} (h : Row32 w A n f) (hb : Below w.heap.size w w') : Row32 w' A n f := fun hn => by
  obtain ⟨b, off, e, hlt, hc⟩ := h hn
  exact ⟨b, off, e, Nat.lt_of_lt_of_le hlt hb.size, fun j hj => (hb.cell (p := ⟨b, off + j, none⟩) hlt).trans (hc j hj)⟩
theorem Row32.less {w : World} {A : Option Addr} {n m : Nat} {f : Nat → Nat} (h : Row32 w A n f) (hm : m ≤ n) : Row32 w A m f := fun hn => by
  obtain ⟨b, off, e, hlt, hc⟩ := h (by omega)
  exact ⟨b, off, e, hlt, fun j hj => hc j (by omega)⟩
theorem Row32.congr {w : World} {A : Option Addr} {n : Nat} {f g : Nat → Nat} (h : Row32 w A n f) (e : ∀ i, i < n → f i = g i) : Row32 w A n g := fun hn => by
  obtain ⟨b, off, e1, hlt, hc⟩ := h hn
  exact ⟨b, off, e1, hlt, fun j hj => by rw [← e j hj]; exact hc j hj⟩

/-- The slice s holds the number v. -/
def Num (w : World) (s : Value) (v : Nat) : Prop := ∃ A c, s = .slice A (wc v) c ∧ Row32 w A (wc v) (dig v)
theorem Num.below {w w' : World} {s : Value} {v : Nat} (h : Num w s v) (hb : Below w.heap.size w w') : Num w' s v := by
  obtain ⟨A, c, e, hr⟩ := h
  exact ⟨A, c, e, hr.below hb⟩
theorem Num.nil (w : World) : Num w (.slice none 0 0) 0 := ⟨none, 0, rfl, fun h => by simp [wc_zero] at h⟩
end Go.Proofs.YtjjfkidddjcdcaaDoor
