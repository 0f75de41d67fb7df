/- Proved here: contracts of package enclosurebig's Int at this program. Conditions: as each theorem says.
   Proved here: contracts of package enclosurebig's SetInt64, NewInt, Set at this program. Conditions: as each theorem says.
   Proved here: the contract of package enclosurebig's NewInt at this program. Conditions: as each theorem says. -/
import Derived.Test.YtjjfkidddjcdcaaDoorDiv
import Derived.Deep.RegionHeld3
namespace Go.Proofs.YtjjfkidddjcdcaaDoor
open Go.ChangeShapes Go.WideShapes Go.ChangeAt Go.RowKit

/-- At place o of block g lies an Int: its sign, its number. -/
structure IntAt (w : World) (g o : Nat) (neg : Bool) (v : Nat) : Prop where
  lt : g < w.heap.size
  sign : w.cell? ⟨g, o, none⟩ = some (.bool neg)
  num : ∃ A c, w.cell? ⟨g, o + 1, none⟩ = some (.slice A (wc v) c) ∧ Row32 w A (wc v) (dig v)
  f0 : w.frozen? ⟨g, o, none⟩ = false
  f1 : w.frozen? ⟨g, o + 1, none⟩ = false

theorem give_any (g o : Nat) (neg : Bool) (A : Option Addr) (n c : Nat) (w : World) (b0 : Bool) (s0 : Value)
    (h0 : w.cell? ⟨g, o, none⟩ = some (.bool b0)) (h1 : w.cell? ⟨g, o + 1, none⟩ = some s0) (f0 : w.frozen? ⟨g, o, none⟩ = false) (f1 : w.frozen? ⟨g, o + 1, none⟩ = false) :
    Calls Tryd.prog 108 #[.pointer (some ⟨g, o, none⟩), .bool neg, .slice A n c] w fun e w' => e = .returned (.pointer (some ⟨g, o, none⟩)) ∧ w' = (w.setCell ⟨g, o + 1, none⟩ (.slice A n c)).setCell ⟨g, o, none⟩ (.bool (neg && decide (0 < n))) := by
  cases neg
  · go_enter Tryd.func108, Tryd.ntmps108
    go_wp2_with fail
    go_ret
    exact ⟨rfl, rfl⟩
  · by_cases hp : 0 < n
    · go_enter Tryd.func108, Tryd.ntmps108
      go_wp2_with fail
      go_ret
      exact ⟨rfl, by simp [hp]⟩
    · go_enter Tryd.func108, Tryd.ntmps108
      go_wp2_with fail
      go_ret
      exact ⟨rfl, by simp [hp]⟩

theorem Row32.grown {w w' : World} {A : Option Addr} {n t : Nat} {f : Nat → Nat} (h : Row32 w A n f) (hb : w.grownBy w' (some t)) (ha : ∀ a, A = some a → 0 < n → a.block ≠ t) : Row32 w' A n f := fun hn => by
  obtain ⟨b, off, e, hlt, hc⟩ := h hn
  have hne := ha _ e hn
  refine ⟨b, off, e, Nat.lt_of_lt_of_le hlt hb.size, fun j hj => ?_⟩
  exact (World.cell?_of_block (a := ⟨b, off + j, none⟩) (hb.block b hlt (fun q => hne (by injection q)))).trans (hc j hj)

theorem IntAt.below {w w' : World} {g o v : Nat} {neg : Bool} (h : IntAt w g o neg v) (hb : Below w.heap.size w w') : IntAt w' g o neg v := by
  obtain ⟨lt, sign, ⟨A, c, hs, hr⟩, f0, f1⟩ := h
  exact ⟨Nat.lt_of_lt_of_le lt hb.size, (hb.cell (p := ⟨g, o, none⟩) lt).trans sign, ⟨A, c, (hb.cell (p := ⟨g, o + 1, none⟩) lt).trans hs, hr.below hb⟩,
    (hb.frozen (p := ⟨g, o, none⟩) lt).trans f0, (hb.frozen (p := ⟨g, o + 1, none⟩) lt).trans f1⟩

theorem Row32.set {w : World} {A : Option Addr} {n : Nat} {f : Nat → Nat} (h : Row32 w A n f) (p : Addr) (u : Value) (hp : ∀ x, w.cell? p ≠ some (.int .u32 x)) : Row32 (w.setCell p u) A n f := fun hn => by
  obtain ⟨b, off, e, hlt, hc⟩ := h hn
  refine ⟨b, off, e, by simpa [World.setCell] using hlt, fun j hj => ?_⟩
  rw [World.cell?_setCell_other]
  · exact hc j hj
  · intro q
    exact hp _ (by rw [q]; exact hc j hj)

/-- What give leaves, where the given words hold v. -/
theorem IntAt.given {w : World} {g o v c : Nat} {b0 neg : Bool} {s0 : Value} {A : Option Addr}
    (h0 : w.cell? ⟨g, o, none⟩ = some (.bool b0)) (h1 : w.cell? ⟨g, o + 1, none⟩ = some s0) (hs : ∀ x, s0 ≠ .int .u32 x) (f0 : w.frozen? ⟨g, o, none⟩ = false) (f1 : w.frozen? ⟨g, o + 1, none⟩ = false)
    (hR : Row32 w A (wc v) (dig v)) :
    IntAt ((w.setCell ⟨g, o + 1, none⟩ (.slice A (wc v) c)).setCell ⟨g, o, none⟩ (.bool (neg && decide (0 < v)))) g o (neg && decide (0 < v)) v := by
  have hne : (⟨g, o, none⟩ : Addr) ≠ ⟨g, o + 1, none⟩ := by intro e; injection e with _ e _; omega
  have hne2 : (⟨g, o + 1, none⟩ : Addr) ≠ ⟨g, o, none⟩ := fun e => hne e.symm
  have k0 : (w.setCell ⟨g, o + 1, none⟩ (.slice A (wc v) c)).cell? ⟨g, o, none⟩ = some (.bool b0) := by rw [World.cell?_setCell_other _ _ _ _ hne2]; exact h0
  refine ⟨?_, World.cell?_setCell_same _ _ _ k0, ⟨A, c, ?_, ?_⟩, by simpa using f0, by simpa using f1⟩
  · have := World.block_lt_of_cell? w _ h0
    simpa [World.setCell] using this
  · rw [World.cell?_setCell_other _ _ _ _ hne]
    exact World.cell?_setCell_same _ _ _ h1
  · refine (hR.set _ _ (fun x e => ?_)).set _ _ (fun x e => ?_)
    · rw [h1] at e; injection e with e; exact hs x e
    · rw [k0] at e; cases e
end Go.Proofs.YtjjfkidddjcdcaaDoor

namespace Go.Proofs.YtjjfkidddjcdcaaDoor
open Go.ChangeShapes Go.WideShapes Go.ChangeAt Go.RowKit

/-- An Int was put at place o of block g, and nothing else that was there has turned. -/
structure Put (w w' : World) (g o : Nat) (neg : Bool) (v : Nat) : Prop where
  at_ : IntAt w' g o neg v
  grown : w.grownBy w' (some g)
  rest : ∀ i, i ≠ o → i ≠ o + 1 → w'.cell? ⟨g, i, none⟩ = w.cell? ⟨g, i, none⟩ ∧ w'.frozen? ⟨g, i, none⟩ = w.frozen? ⟨g, i, none⟩

theorem Put.given {w a : World} {g o v v0 c : Nat} {b0 neg : Bool} {A : Option Addr} (hz : IntAt w g o b0 v0) (hb : Below w.heap.size w a) (hR : Row32 a A (wc v) (dig v)) :
    Put w ((a.setCell ⟨g, o + 1, none⟩ (.slice A (wc v) c)).setCell ⟨g, o, none⟩ (.bool (neg && decide (0 < v)))) g o (neg && decide (0 < v)) v := by
  have hz2 := hz.below hb
  obtain ⟨A0, c0, hs, _⟩ := hz2.num
  refine ⟨IntAt.given hz2.sign hs (fun x e => by cases e) hz2.f0 hz2.f1 hR, grown_set (grown_set (grown_below (grown_refl w _) hb) _ _) _ _, fun i h1 h2 => ⟨?_, ?_⟩⟩
  · rw [World.cell?_setCell_other _ _ _ _ (by intro e; injection e with _ e _; exact h1 e.symm), World.cell?_setCell_other _ _ _ _ (by intro e; injection e with _ e _; exact h2 e.symm)]
    exact hb.cell (p := ⟨g, i, none⟩) hz.lt
  · simp only [World.frozen?_setCell]
    exact hb.frozen (p := ⟨g, i, none⟩) hz.lt

theorem wc_pos_iff (v : Nat) : decide (0 < wc v) = decide (0 < v) := by
  rcases Nat.eq_zero_or_pos v with h | h
  · subst h; rfl
  · rw [decide_eq_true h, decide_eq_true (wc_pos h)]

/-- give, where the given words hold v, from a world that has grown by new blocks. -/
theorem give_put (w a : World) (g o v v0 c : Nat) (b0 neg : Bool) (A : Option Addr) (hz : IntAt w g o b0 v0) (hb : Below w.heap.size w a) (hR : Row32 a A (wc v) (dig v)) :
    Calls Tryd.prog 108 #[.pointer (some ⟨g, o, none⟩), .bool neg, .slice A (wc v) c] a fun e w' => e = .returned (.pointer (some ⟨g, o, none⟩)) ∧ Put w w' g o (neg && decide (0 < v)) v := by
  have hz2 := hz.below hb
  obtain ⟨A0, c0, hs, _⟩ := hz2.num
  refine (give_any g o neg A (wc v) c a _ _ hz2.sign hs hz2.f0 hz2.f1).mono ?_
  rintro e w' ⟨rfl, rfl⟩
  rw [wc_pos_iff]
  exact ⟨rfl, Put.given hz hb hR⟩

set_option maxHeartbeats 1000000 in
theorem setint_any (g o v0 : Nat) (b0 : Bool) (x : Int) (w : World) (hz : IntAt w g o b0 v0) (hx : -9223372036854775808 ≤ x) (hx2 : x ≤ 9223372036854775807) :
    Calls Tryd.prog 89 #[.pointer (some ⟨g, o, none⟩), .int .i64 x] w fun e w' => e = .returned (.pointer (some ⟨g, o, none⟩)) ∧ Put w w' g o (decide (x < 0) && decide (0 < x.natAbs)) x.natAbs := by
  have HZ := Lib.hid hz
  clear hz
  by_cases hneg : x < 0
  · rw [decide_eq_true hneg]
    go_enter Tryd.func89, Tryd.ntmps89
    go_wp2_with fail
    have e : IntKind.u64.wrap (-IntKind.u64.wrap x) = ((x.natAbs : Nat) : Int) := by rw [IntKind.wrap_u64, IntKind.wrap_u64]; omega
    rw [e]
    refine (words_any x.natAbs w (by omega)).mono ?_
    rintro e w1 ⟨hb1, s, rfl, A, c, rfl, hR⟩
    go_wp2_with fail
    refine (give_put w w1 g o x.natAbs v0 c b0 true A HZ.out hb1 hR).mono ?_
    rintro e w2 ⟨rfl, hP⟩
    go_wp2_with fail
    go_ret
    exact ⟨rfl, hP⟩
  · have e : IntKind.u64.wrap x = ((x.natAbs : Nat) : Int) := by rw [IntKind.wrap_u64]; omega
    rw [decide_eq_false hneg]
    go_enter Tryd.func89, Tryd.ntmps89
    go_wp2_with fail
    refine (words_any x.natAbs w (by omega)).mono ?_
    rintro e w1 ⟨hb1, s, rfl, A, c, rfl, hR⟩
    go_wp2_with fail
    refine (give_put w w1 g o x.natAbs v0 c b0 false A HZ.out hb1 hR).mono ?_
    rintro e w2 ⟨rfl, hP⟩
    go_wp2_with fail
    go_ret
    exact ⟨rfl, hP⟩
end Go.Proofs.YtjjfkidddjcdcaaDoor

namespace Go.Proofs.YtjjfkidddjcdcaaDoor
open Go.ChangeShapes Go.WideShapes Go.ChangeAt Go.RowKit

/-- A new Int, 0. -/
theorem IntAt.zero (w : World) : IntAt (w.alloc (Obj.cells #[.bool false, .slice none 0 0] 101)) w.heap.size 0 false 0 :=
  ⟨by simp, by simp [go_sem], ⟨none, 0, by simp [go_sem, wc_zero], fun h => by simp [wc_zero] at h⟩, by simp [go_sem], by simp [go_sem]⟩

theorem newint_any (x : Int) (w : World) (hx : -9223372036854775808 ≤ x) (hx2 : x ≤ 9223372036854775807) :
    Calls Tryd.prog 79 #[.int .i64 x] w fun e w' => Below w.heap.size w w' ∧ e = .returned (.pointer (some ⟨w.heap.size, 0, none⟩)) ∧ IntAt w' w.heap.size 0 (decide (x < 0) && decide (0 < x.natAbs)) x.natAbs := by
  go_enter Tryd.func79, Tryd.ntmps79
  go_wp2_with fail
  refine (setint_any w.heap.size 0 0 false x _ (IntAt.zero w) hx hx2).mono ?_
  rintro e w2 ⟨rfl, hP⟩
  go_wp2_with fail
  go_ret
  exact ⟨(below_of_grown (grown_refl w (some w.heap.size)) _ (Nat.le_refl _) (Nat.le_refl _)).trans (((Below.refl _ _).alloc (Nat.le_refl _) _).trans (below_of_grown hP.grown _ (Nat.le_refl _) (by simp))), rfl, hP.at_⟩
end Go.Proofs.YtjjfkidddjcdcaaDoor
