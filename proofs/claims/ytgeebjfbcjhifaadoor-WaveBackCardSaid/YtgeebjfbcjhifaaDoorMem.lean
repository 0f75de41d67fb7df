/- Proved here: plain facts on memory in the model's words: a block that is known whole, what has turned beside it, a row of integers, a block of natural numbers. Conditions: as each theorem says. -/
import Derived.Below
import Derived.OwnWalk
import Derived.Laws.OwnMore
import Derived.Laws.Rows
import Derived.Deep.Draws
import Derived.Deep.OwnRows
import Derived.Test.YtgeebjfbcjhifaaDoorWavePlain
namespace Go.Proofs.YtgeebjfbcjhifaaDoor
open Go.RowKit

/-- Block g is just these cells. -/
def Whole (w : World) (g : Nat) (ty : TypeId) (cs : Array Value) : Prop := w.heap[g]? = some (.cells cs ty (0, 0))

theorem Whole.lt {w : World} {g : Nat} {ty : TypeId} {cs : Array Value} (h : Whole w g ty cs) : g < w.heap.size := by
  unfold Whole at h
  rcases Nat.lt_or_ge g w.heap.size with h1 | h1
  · exact h1
  · rw [Array.getElem?_eq_none h1] at h; cases h
theorem Whole.cell {w : World} {g : Nat} {ty : TypeId} {cs : Array Value} (h : Whole w g ty cs) (i : Nat) : w.cell? ⟨g, i, none⟩ = cs[i]? := cell_of_row w g i cs ty (0, 0) h
theorem Whole.frozen {w : World} {g : Nat} {ty : TypeId} {cs : Array Value} (h : Whole w g ty cs) (i : Nat) : w.frozen? ⟨g, i, none⟩ = false := by
  unfold Whole at h
  simp [World.frozen?, h]
theorem Whole.drewN {w : World} {g : Nat} {ty : TypeId} {cs : Array Value} (h : Whole w g ty cs) (n : Nat) : Whole (w.drewN n) g ty cs := h
theorem Whole.set {w : World} {g : Nat} {ty : TypeId} {cs : Array Value} (h : Whole w g ty cs) (i : Nat) (u : Value) : Whole (w.setCell ⟨g, i, none⟩ u) g ty (cs.setIfInBounds i u) := by
  unfold Whole at h ⊢
  simp [World.setCell, Array.getElem?_modify, h]
theorem Whole.alloc {w : World} {g : Nat} {ty : TypeId} {cs : Array Value} (h : Whole w g ty cs) (o : Obj) : Whole (w.alloc o) g ty cs := (Below.heap_alloc w o g h.lt).trans h
theorem Whole.far {w : World} {g : Nat} {ty : TypeId} {cs : Array Value} (h : Whole w g ty cs) {p : Addr} (hp : g ≠ p.block) (u : Value) : Whole (w.setCell p u) g ty cs := (Below.heap_setCell w p u g hp).trans h
theorem Whole.new (w : World) (ty : TypeId) (cs : Array Value) (g : Nat) (hg : g = w.heap.size) : Whole (w.alloc (.cells cs ty)) g ty cs := by
  subst hg; exact heap_alloc_new w _
theorem Whole.below {w w' : World} {B g : Nat} {ty : TypeId} {cs : Array Value} (h : Whole w g ty cs) (hb : Below B w w') (hg : g < B) : Whole w' g ty cs := (hb.block g hg).trans h
theorem Whole.grown {w w' : World} {row : Option Nat} {g : Nat} {ty : TypeId} {cs : Array Value} (h : Whole w g ty cs) (hb : w.grownBy w' row) (hg : some g ≠ row) : Whole w' g ty cs := (hb.block g h.lt hg).trans h

theorem grown_refl (w : World) (row : Option Nat) : w.grownBy w row := ⟨rfl, rfl, rfl, Nat.le_refl _, fun _ _ _ => rfl⟩
theorem grown_trans {a b c : World} {row : Option Nat} (h : a.grownBy b row) (k : b.grownBy c row) : a.grownBy c row :=
  ⟨k.os.trans h.os, k.tape.trans h.tape, k.output.trans h.output, Nat.le_trans h.size k.size, fun i hi hne => (k.block i (Nat.lt_of_lt_of_le hi h.size) hne).trans (h.block i hi hne)⟩
theorem grown_drewN {a w : World} {row : Option Nat} (h : a.grownBy w row) (n : Nat) : a.grownBy (w.drewN n) row := ⟨h.os, h.tape, h.output, h.size, h.block⟩
theorem grown_drew {a w : World} {row : Option Nat} (h : a.grownBy w row) : a.grownBy w.drew row := ⟨h.os, h.tape, h.output, h.size, h.block⟩
theorem grown_set {a w : World} {g : Nat} (h : a.grownBy w (some g)) (i : Nat) (u : Value) : a.grownBy (w.setCell ⟨g, i, none⟩ u) (some g) :=
  ⟨h.os, h.tape, h.output, by simpa [World.setCell] using h.size, fun j hj hne => (Below.heap_setCell w ⟨g, i, none⟩ u j (by intro e; exact hne (by rw [e]))).trans (h.block j hj hne)⟩
theorem grown_alloc {a w : World} {row : Option Nat} (h : a.grownBy w row) (o : Obj) : a.grownBy (w.alloc o) row :=
  ⟨h.os, h.tape, h.output, Nat.le_trans h.size (by simp), fun i hi hne => (Below.heap_alloc w o i (Nat.lt_of_lt_of_le hi h.size)).trans (h.block i hi hne)⟩
theorem grown_new {a w : World} {row : Option Nat} (h : a.grownBy w row) {p : Addr} (hp : a.heap.size ≤ p.block) (u : Value) : a.grownBy (w.setCell p u) row :=
  ⟨h.os, h.tape, h.output, by simpa [World.setCell] using h.size, fun j hj hne => (Below.heap_setCell w p u j (by omega)).trans (h.block j hj hne)⟩
theorem grown_below {a w w' : World} {row : Option Nat} (h : a.grownBy w row) (hb : Below w.heap.size w w') : a.grownBy w' row :=
  grown_trans h ⟨hb.os, hb.tape, hb.output, hb.size, fun i hi _ => hb.block i hi⟩
theorem below_of_grown {a w : World} {g : Nat} (h : a.grownBy w (some g)) (B : Nat) (hB : B ≤ g) (hB2 : B ≤ a.heap.size) : Below B a w :=
  ⟨h.os, h.tape, h.output, h.size, fun i hi => h.block i (by omega) (fun e => by injection e with e; omega)⟩

/-- A slice that holds these integers (nil, where it is empty). -/
def Row (w : World) (A : Option Addr) (n : Nat) (f : Nat → Int) : Prop :=
  0 < n → ∃ b off, A = some ⟨b, off, none⟩ ∧ b < w.heap.size ∧ ∀ j, j < n → w.cell? ⟨b, off + j, none⟩ = some (.int .i64 (f j))

/-- .. none of it in block g. -/
def Apart (A : Option Addr) (n g : Nat) : Prop := 0 < n → ∀ a, A = some a → a.block ≠ g

theorem Row.below {w w' : World} {A : Option Addr} {n : Nat} {f : Nat → Int} (h : Row w A n f) (hb : Below w.heap.size w w') : Row w' A n f := fun hn => by
  obtain ⟨b, off, e, hlt, hc⟩ := h hn
  exact ⟨b, off, e, Nat.lt_of_lt_of_le hlt hb.size, fun j hj => (hb.cell (p := ⟨b, off + j, none⟩) hlt).trans (hc j hj)⟩
theorem Row.grown {w w' : World} {A : Option Addr} {n g : Nat} {f : Nat → Int} (h : Row w A n f) (hb : w.grownBy w' (some g)) (ha : Apart A n g) : Row w' A n f := fun hn => by
  obtain ⟨b, off, e, hlt, hc⟩ := h hn
  refine ⟨b, off, e, Nat.lt_of_lt_of_le hlt hb.size, fun j hj => ?_⟩
  have hne := ha hn _ e
  exact (World.cell?_of_block (a := ⟨b, off + j, none⟩) (hb.block b hlt (fun q => hne (by injection q)))).trans (hc j hj)
theorem Row.apart {w : World} {A : Option Addr} {n g : Nat} {f : Nat → Int} (h : Row w A n f) (hg : w.heap.size ≤ g) : Apart A n g := fun hn a ha => by
  obtain ⟨b, off, e, hlt, hc⟩ := h hn
  rw [ha] at e
  injection e with e
  subst e
  show b ≠ g
  omega

/-- Block D holds these numbers, N of them. -/
def Nums (w : World) (D N : Nat) (s : Nat → Nat) : Prop := w.rowIs D 3 N (fun j => .int .i64 ((s j : Nat) : Int))
theorem Nums.cell {w : World} {D N : Nat} {s : Nat → Nat} (h : Nums w D N s) (j : Nat) (hj : j < N) : w.cell? ⟨D, j, none⟩ = some (.int .i64 (s j)) := World.rowIs.cell h hj
theorem Nums.frozen {w : World} {D N : Nat} {s : Nat → Nat} (h : Nums w D N s) (j : Nat) : w.frozen? ⟨D, j, none⟩ = false := World.rowIs.frozen h j
theorem Nums.lt {w : World} {D N : Nat} {s : Nat → Nat} (h : Nums w D N s) : D < w.heap.size := World.rowIs.lt h
theorem Nums.drewN {w : World} {D N : Nat} {s : Nat → Nat} (h : Nums w D N s) (q : Nat) : Nums (w.drewN q) D N s := h
theorem Nums.drew {w : World} {D N : Nat} {s : Nat → Nat} (h : Nums w D N s) : Nums w.drew D N s := h
theorem Nums.below {w w' : World} {B D N : Nat} {s : Nat → Nat} (h : Nums w D N s) (hb : Below B w w') (hD : D < B) : Nums w' D N s := World.rowIs.of_block h (hb.block D hD)
theorem Nums.far {w : World} {D N : Nat} {s : Nat → Nat} (h : Nums w D N s) {p : Addr} (hp : D ≠ p.block) (u : Value) : Nums (w.setCell p u) D N s := World.rowIs.setOther h hp u
theorem Nums.set {w : World} {D N : Nat} {s : Nat → Nat} (h : Nums w D N s) (i x : Nat) : Nums (w.setCell ⟨D, i, none⟩ (.int .i64 (x : Nat))) D N (upd s i x) :=
  World.rowIs.congr (World.rowIs.set h i _) fun j _ => by unfold upd; by_cases e : j = i <;> simp [e]
theorem Nums.row {w : World} {D N : Nat} {s : Nat → Nat} (h : Nums w D N s) : Row w (some ⟨D, 0, none⟩) N (fun j => (s j : Int)) := fun _ =>
  ⟨D, 0, rfl, h.lt, fun j hj => by rw [Nat.zero_add]; exact h.cell j hj⟩
theorem nums_made (w : World) (n : Nat) : Nums (w.alloc (.cells (madeCells #[.int .i64 0] n) 3)) w.heap.size n (fun _ => 0) := World.rowIs_made w _ n 3
end Go.Proofs.YtgeebjfbcjhifaaDoor
