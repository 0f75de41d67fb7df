/- Proved here: the closed fact 'flips' at this program. Conditions: the listed variable holds what is laid. -/
import Derived.Test.YtjjfkidddjcdcaaDoorPick
import Derived.Deep.RegionHeld3
namespace Go.Proofs.YtjjfkidddjcdcaaDoor
open Go.ChangeShapes Go.WideShapes Go.ChangeAt Go.RowKit

/-- Ones alone. -/
def ones : Nat → Int := fun _ => 1

theorem ones_ok (n : Nat) : ∀ j, j < n → OkBit (ones j) := fun _ _ => .inr rfl

def OneRel (w : World) (t : Nat) (A : Option Addr) (c : Nat) (v7 v9 v10 : Value) (wr : World) : Prop :=
  ∃ k : Nat, k ≤ 52 ∧ v7 = .int .i64 (1 + k) ∧ v9 = .int .i64 ((2 : Int) ^ k) ∧ v10 = .int .i64 k ∧ To w wr t A 1 c 1 (decide (1 ≤ k))

set_option maxRecDepth 100000 in
set_option maxHeartbeats 1000000 in
theorem unit_one (c : Nat) (A : Option Addr) (w : World) (hG : Glob w) (hR : Row w A 1 ones) :
    Calls Tryd.prog 52 #[.slice A 1 c] w fun e w' => e = .returned (.tuple #[.float .f64 0, .int .i64 0, .agg #[.int .i64 9, .int .i64 1]]) ∧ Below w.heap.size w w' := by
  have HR := Lib.hid hR
  have HG := Lib.hid hG
  clear hR hG
  go_enter Tryd.func52, Tryd.ntmps52
  go_wp2_with fail
  have H0 := Lib.hid (Held.new w)
  refine (check_ok 1 c A ones _ (by omega) (HR.out.below ((Below.refl _ _).alloc (Nat.le_refl _) _)) (ones_ok 1)).mono ?_
  rintro e w1 ⟨rfl, hb1⟩
  have H1 := Lib.hid (H0.out.below hb1)
  have HR1 := Lib.hid ((HR.out.below ((Below.refl _ _).alloc (Nat.le_refl _) _)).below hb1)
  clear hb1 H0
  have hz : w.heap.size < w1.heap.size := H1.out.sz
  go_wp2_with fail
  have HT : Tape ((w1.alloc (Obj.cells #[Value.int IntKind.i64 0, Value.int IntKind.i64 0] 26)).alloc (Obj.cells #[Value.slice A 1 c, Value.int IntKind.i64 0, Value.bool false] 85)) (w1.heap.size + 1) A 1 c 0 false := Whole.new _ _ _ _ (by simp)
  have HR2 := Lib.hid ((HR1.out.below ((Below.refl _ _).alloc (Nat.le_refl _) (Obj.cells #[Value.int IntKind.i64 0, Value.int IntKind.i64 0] 26))).below ((Below.refl _ _).alloc (Nat.le_refl _) (Obj.cells #[Value.slice A 1 c, Value.int IntKind.i64 0, Value.bool false] 85)))
  have H2 := Lib.hid ((H1.out.alloc (Obj.cells #[Value.int IntKind.i64 0, Value.int IntKind.i64 0] 26)).alloc (Obj.cells #[Value.slice A 1 c, Value.int IntKind.i64 0, Value.bool false] 85))
  have hA : Apart A 1 (w1.heap.size + 1) := HR1.out.apart (by omega)
  have HA := Lib.hid hA
  have HTT := Lib.hid HT
  clear HT hA H1
  generalize (w1.alloc (Obj.cells #[Value.int IntKind.i64 0, Value.int IntKind.i64 0] 26)).alloc (Obj.cells #[Value.slice A 1 c, Value.int IntKind.i64 0, Value.bool false] 85) = W2 at *
  have hc2 : W2.cell? ⟨w1.heap.size + 1, 2, none⟩ = some (.bool false) := HTT.out.cell 2
  have ht : w.heap.size < w1.heap.size + 1 := by omega
  generalize w1.heap.size + 1 = t at *
  refine wp_loop_rounds 1 ?_
  rw [rounds_succ]
  go_wp2_with fail
  refine (nextb_any t 1 c 0 A ones false W2 HTT.out HR2.out HA.out (by omega) (by simp) (by omega) 1 rfl 1 rfl false rfl).mono ?_
  rintro e w2 ⟨rfl, hTo⟩
  have HTo := Lib.hid hTo
  have hc1 : w2.cell? ⟨t, 1, none⟩ = some (.int .i64 1) := hTo.1.cell 1
  clear hTo hc2
  go_wp2_with fail
  go_loopg [7, 9, 10] 52 (fun gk v7 v9 v10 wr => ∃ k : Nat, gk + k = 52 ∧ v7 = .int .i64 (1 + k) ∧ v9 = .int .i64 ((2 : Int) ^ k) ∧ v10 = .int .i64 k ∧ To w2 wr t A 1 c 1 (decide (1 ≤ k)))
  case atStart => exact ⟨0, rfl, rfl, rfl, rfl, To.refl HTo.out.1⟩
  case round =>
    obtain ⟨k, hk, rfl, rfl, rfl, hTo⟩ := hrel
    have HTo2 := Lib.hid hTo
    clear hTo
    by_cases hlt : k < 52
    · obtain ⟨gk, rfl⟩ : ∃ g', gk = g' + 1 := ⟨gk - 1, by omega⟩
      have C := Lib.hid (nextb_any t 1 c 1 A ones (decide (1 ≤ k)) wr HTo2.out.1 ((HR2.out.grown HTo.out.2 HA.out).grown HTo2.out.2 HA.out) HA.out (by omega) (by simp) (by omega) 0 rfl 1 rfl true rfl)
      have hp : (2 : Int) ^ k < 4503599627370496 := by
        have h1 : 2 ^ k < 2 ^ 52 := Nat.pow_lt_pow_right (by omega) hlt
        rw [pow_cast]; omega
      have hp0 : (0 : Int) ≤ 2 ^ k := by rw [pow_cast]; exact Int.natCast_nonneg _
      have hor := or_bit ((2 : Int) ^ k) 0 hp0 (by omega) (.inl rfl)
      have hs : (2 : Int) ^ (k + 1) = 2 * 2 ^ k + 0 := by rw [Int.pow_succ]; omega
      have HS := Lib.hid hs
      clear hs
      generalize (2 : Int) ^ k = V at *
      go_wp2_with (go_at_call 94; refine C.out.mono ?_; rintro e w3 ⟨rfl, hT3⟩)
      all_goals first | (exfalso; omega) | skip
      go_roundg gk
      case measure => omega
      case rel => exact ⟨k + 1, by omega, by go_num, by rw [HS.out]; go_num, by go_num, by have := HTo2.out.trans hT3; rw [decide_eq_true (by omega)]; exact this⟩
    · obtain rfl : k = 52 := by omega
      go_wp2_with fail
      have H3 := Lib.hid ((H2.out.grown HTo.out.2 ht).grown HTo2.out.2 ht)
      have HG3 := HG.out.below H3.out.be
      refine (make_any 4503599627370496 (-53) (by omega) (by omega) wr HG3.g0 HG3.g1 HG3.sz).mono ?_
      rintro e w4 ⟨rfl, hb4⟩
      generalize makeW (decide ((4503599627370496 : Int) < 0)) (4503599627370496 : Int).natAbs (-53) = y at *
      have HT4 := Lib.hid (HTo2.out.1.below hb4 HTo2.out.1.lt)
      have H4 := Lib.hid (H3.out.below hb4)
      clear hb4 HG3 H3
      go_wp2_with fail
      refine (told_float_short t 1 c 1 A y w4 HT4.out).mono ?_
      rintro e w5 ⟨rfl, hb5⟩
      have H5 := Lib.hid (H4.out.below hb5)
      obtain ⟨c0, c1, f0, f1, sz, be⟩ := H5.out
      clear hb5 be H4
      go_wp2_with fail
      exact bodyPost_ret (v := .tuple #[.float .f64 0, .int .i64 0, .agg #[.int .i64 9, .int .i64 1]]) (by simp [results, Tryd.results52, go_sem, c0, c1]) rfl ⟨rfl, (H5.out.be.setCell (Nat.le_refl _) _).setCell (Nat.le_refl _) _⟩
end Go.Proofs.YtjjfkidddjcdcaaDoor
