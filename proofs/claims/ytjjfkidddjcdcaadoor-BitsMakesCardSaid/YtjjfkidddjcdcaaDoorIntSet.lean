/- Proved here: contracts of package enclosurebig's SetInt64, NewInt, Set at this program. Conditions: as each theorem says. -/
import Derived.Test.YtjjfkidddjcdcaaDoorInt
namespace Go.Proofs.YtjjfkidddjcdcaaDoor
open Go.ChangeShapes Go.WideShapes Go.ChangeAt Go.RowKit

/-- An Int was put at place o of block g, and nothing else that was there has turned. -/
structure Put (w w' : World) (g o : Nat) (neg : Bool) (v : Nat) : Prop where
  at_ : IntAt w' g o neg v
  grown : w.grownBy w' (some g)
  rest : ∀ i, i ≠ o → i ≠ o + 1 → w'.cell? ⟨g, i, none⟩ = w.cell? ⟨g, i, none⟩ ∧ w'.frozen? ⟨g, i, none⟩ = w.frozen? ⟨g, i, none⟩

theorem Put.given {w a : World} {g o v v0 c : Nat} {b0 neg : Bool} {A : Option Addr} (hz : IntAt w g o b0 v0) (hb : Below w.heap.size w a) (hR : Row32 a A (wc v) (dig v)) :
    Put w ((a.setCell ⟨g, o + 1, none⟩ (.slice A (wc v) c)).setCell ⟨g, o, none⟩ (.bool (neg && decide (0 < v)))) g o (neg && decide (0 < v)) v := by
  have hz2 := hz.below hb
  obtain ⟨A0, c0, hs, _⟩ := hz2.num
  refine ⟨IntAt.given hz2.sign hs (fun x e => by cases e) hz2.f0 hz2.f1 hR, grown_set (grown_set (grown_below (grown_refl w _) hb) _ _) _ _, fun i h1 h2 => ⟨?_, ?_⟩⟩
  · rw [World.cell?_setCell_other _ _ _ _ (by intro e; injection e with _ e _; exact h1 e.symm), World.cell?_setCell_other _ _ _ _ (by intro e; injection e with _ e _; exact h2 e.symm)]
    exact hb.cell (p := ⟨g, i, none⟩) hz.lt
  · simp only [World.frozen?_setCell]
    exact hb.frozen (p := ⟨g, i, none⟩) hz.lt

theorem wc_pos_iff (v : Nat) : decide (0 < wc v) = decide (0 < v) := by
  rcases Nat.eq_zero_or_pos v with h | h
  · subst h; rfl
  · rw [decide_eq_true h, decide_eq_true (wc_pos h)]

/-- give, where the given words hold v, from a world that has grown by new blocks. -/
theorem give_put (w a : World) (g o v v0 c : Nat) (b0 neg : Bool) (A : Option Addr) (hz : IntAt w g o b0 v0) (hb : Below w.heap.size w a) (hR : Row32 a A (wc v) (dig v)) :
    Calls Tryd.prog 108 #[.pointer (some ⟨g, o, none⟩), .bool neg, .slice A (wc v) c] a fun e w' => e = .returned (.pointer (some ⟨g, o, none⟩)) ∧ Put w w' g o (neg && decide (0 < v)) v := by
  have hz2 := hz.below hb
  obtain ⟨A0, c0, hs, _⟩ := hz2.num
  refine (give_any g o neg A (wc v) c a _ _ hz2.sign hs hz2.f0 hz2.f1).mono ?_
  rintro e w' ⟨rfl, rfl⟩
  rw [wc_pos_iff]
  exact ⟨rfl, Put.given hz hb hR⟩

set_option maxHeartbeats 1000000 in
theorem setint_any (g o v0 : Nat) (b0 : Bool) (x : Int) (w : World) (hz : IntAt w g o b0 v0) (hx : -9223372036854775808 ≤ x) (hx2 : x ≤ 9223372036854775807) :
    Calls Tryd.prog 89 #[.pointer (some ⟨g, o, none⟩), .int .i64 x] w fun e w' => e = .returned (.pointer (some ⟨g, o, none⟩)) ∧ Put w w' g o (decide (x < 0) && decide (0 < x.natAbs)) x.natAbs := by
  have HZ := Lib.hid hz
  clear hz
  by_cases hneg : x < 0
  · rw [decide_eq_true hneg]
    go_enter Tryd.func89, Tryd.ntmps89
    go_wp2_with fail
    have e : IntKind.u64.wrap (-IntKind.u64.wrap x) = ((x.natAbs : Nat) : Int) := by rw [IntKind.wrap_u64, IntKind.wrap_u64]; omega
    rw [e]
    refine (words_any x.natAbs w (by omega)).mono ?_
    rintro e w1 ⟨hb1, s, rfl, A, c, rfl, hR⟩
    go_wp2_with fail
    refine (give_put w w1 g o x.natAbs v0 c b0 true A HZ.out hb1 hR).mono ?_
    rintro e w2 ⟨rfl, hP⟩
    go_wp2_with fail
    go_ret
    exact ⟨rfl, hP⟩
  · have e : IntKind.u64.wrap x = ((x.natAbs : Nat) : Int) := by rw [IntKind.wrap_u64]; omega
    rw [decide_eq_false hneg]
    go_enter Tryd.func89, Tryd.ntmps89
    go_wp2_with fail
    refine (words_any x.natAbs w (by omega)).mono ?_
    rintro e w1 ⟨hb1, s, rfl, A, c, rfl, hR⟩
    go_wp2_with fail
    refine (give_put w w1 g o x.natAbs v0 c b0 false A HZ.out hb1 hR).mono ?_
    rintro e w2 ⟨rfl, hP⟩
    go_wp2_with fail
    go_ret
    exact ⟨rfl, hP⟩
end Go.Proofs.YtjjfkidddjcdcaaDoor
