/- Proved here: contracts of package enclosurebig's Int at this program. Conditions: as each theorem says. -/
import Derived.Test.YtjjfkidddjcdcaaDoorSmallDiv
import Derived.Deep.RegionHeld3
namespace Go.Proofs.YtjjfkidddjcdcaaDoor
open Go.ChangeShapes Go.WideShapes Go.ChangeAt Go.RowKit

/-- At place o of block g lies an Int: its sign, its number. -/
structure IntAt (w : World) (g o : Nat) (neg : Bool) (v : Nat) : Prop where
  lt : g < w.heap.size
  sign : w.cell? ⟨g, o, none⟩ = some (.bool neg)
  num : ∃ A c, w.cell? ⟨g, o + 1, none⟩ = some (.slice A (wc v) c) ∧ Row32 w A (wc v) (dig v)
  f0 : w.frozen? ⟨g, o, none⟩ = false
  f1 : w.frozen? ⟨g, o + 1, none⟩ = false

theorem give_any (g o : Nat) (neg : Bool) (A : Option Addr) (n c : Nat) (w : World) (b0 : Bool) (s0 : Value)
    (h0 : w.cell? ⟨g, o, none⟩ = some (.bool b0)) (h1 : w.cell? ⟨g, o + 1, none⟩ = some s0) (f0 : w.frozen? ⟨g, o, none⟩ = false) (f1 : w.frozen? ⟨g, o + 1, none⟩ = false) :
    Calls Tryd.prog 108 #[.pointer (some ⟨g, o, none⟩), .bool neg, .slice A n c] w fun e w' => e = .returned (.pointer (some ⟨g, o, none⟩)) ∧ w' = (w.setCell ⟨g, o + 1, none⟩ (.slice A n c)).setCell ⟨g, o, none⟩ (.bool (neg && decide (0 < n))) := by
  cases neg
  · go_enter Tryd.func108, Tryd.ntmps108
    go_wp2_with fail
    go_ret
    exact ⟨rfl, rfl⟩
  · by_cases hp : 0 < n
    · go_enter Tryd.func108, Tryd.ntmps108
      go_wp2_with fail
      go_ret
      exact ⟨rfl, by simp [hp]⟩
    · go_enter Tryd.func108, Tryd.ntmps108
      go_wp2_with fail
      go_ret
      exact ⟨rfl, by simp [hp]⟩

theorem Row32.grown {w w' : World} {A : Option Addr} {n t : Nat} {f : Nat → Nat} (h : Row32 w A n f) (hb : w.grownBy w' (some t)) (ha : ∀ a, A = some a → 0 < n → a.block ≠ t) : Row32 w' A n f := fun hn => by
  obtain ⟨b, off, e, hlt, hc⟩ := h hn
  have hne := ha _ e hn
  refine ⟨b, off, e, Nat.lt_of_lt_of_le hlt hb.size, fun j hj => ?_⟩
  exact (World.cell?_of_block (a := ⟨b, off + j, none⟩) (hb.block b hlt (fun q => hne (by injection q)))).trans (hc j hj)

theorem IntAt.below {w w' : World} {g o v : Nat} {neg : Bool} (h : IntAt w g o neg v) (hb : Below w.heap.size w w') : IntAt w' g o neg v := by
  obtain ⟨lt, sign, ⟨A, c, hs, hr⟩, f0, f1⟩ := h
  exact ⟨Nat.lt_of_lt_of_le lt hb.size, (hb.cell (p := ⟨g, o, none⟩) lt).trans sign, ⟨A, c, (hb.cell (p := ⟨g, o + 1, none⟩) lt).trans hs, hr.below hb⟩,
    (hb.frozen (p := ⟨g, o, none⟩) lt).trans f0, (hb.frozen (p := ⟨g, o + 1, none⟩) lt).trans f1⟩

theorem Row32.set {w : World} {A : Option Addr} {n : Nat} {f : Nat → Nat} (h : Row32 w A n f) (p : Addr) (u : Value) (hp : ∀ x, w.cell? p ≠ some (.int .u32 x)) : Row32 (w.setCell p u) A n f := fun hn => by
  obtain ⟨b, off, e, hlt, hc⟩ := h hn
  refine ⟨b, off, e, by simpa [World.setCell] using hlt, fun j hj => ?_⟩
  rw [World.cell?_setCell_other]
  · exact hc j hj
  · intro q
    exact hp _ (by rw [q]; exact hc j hj)

/-- What give leaves, where the given words hold v. -/
theorem IntAt.given {w : World} {g o v c : Nat} {b0 neg : Bool} {s0 : Value} {A : Option Addr}
    (h0 : w.cell? ⟨g, o, none⟩ = some (.bool b0)) (h1 : w.cell? ⟨g, o + 1, none⟩ = some s0) (hs : ∀ x, s0 ≠ .int .u32 x) (f0 : w.frozen? ⟨g, o, none⟩ = false) (f1 : w.frozen? ⟨g, o + 1, none⟩ = false)
    (hR : Row32 w A (wc v) (dig v)) :
    IntAt ((w.setCell ⟨g, o + 1, none⟩ (.slice A (wc v) c)).setCell ⟨g, o, none⟩ (.bool (neg && decide (0 < v)))) g o (neg && decide (0 < v)) v := by
  have hne : (⟨g, o, none⟩ : Addr) ≠ ⟨g, o + 1, none⟩ := by intro e; injection e with _ e _; omega
  have hne2 : (⟨g, o + 1, none⟩ : Addr) ≠ ⟨g, o, none⟩ := fun e => hne e.symm
  have k0 : (w.setCell ⟨g, o + 1, none⟩ (.slice A (wc v) c)).cell? ⟨g, o, none⟩ = some (.bool b0) := by rw [World.cell?_setCell_other _ _ _ _ hne2]; exact h0
  refine ⟨?_, World.cell?_setCell_same _ _ _ k0, ⟨A, c, ?_, ?_⟩, by simpa using f0, by simpa using f1⟩
  · have := World.block_lt_of_cell? w _ h0
    simpa [World.setCell] using this
  · rw [World.cell?_setCell_other _ _ _ _ hne]
    exact World.cell?_setCell_same _ _ _ h1
  · refine (hR.set _ _ (fun x e => ?_)).set _ _ (fun x e => ?_)
    · rw [h1] at e; injection e with e; exact hs x e
    · rw [k0] at e; cases e
end Go.Proofs.YtjjfkidddjcdcaaDoor
