/- Proved here: the closed fact 'flips' at this program. Conditions: the listed variable holds what is laid.
   Proved here: the closed fact 'flips' at this program. Conditions: the listed variable holds what is laid. -/
import Derived.Test.YtjjfkidddjcdcaaDoorPickAt
import Derived.Deep.RegionHeld3
namespace Go.Proofs.YtjjfkidddjcdcaaDoor
open Go.ChangeShapes Go.WideShapes Go.ChangeAt Go.RowKit

/-- Ones alone. -/
def ones : Nat → Int := fun _ => 1

theorem ones_ok (n : Nat) : ∀ j, j < n → OkBit (ones j) := fun _ _ => .inr rfl

def OneRel (w : World) (t : Nat) (A : Option Addr) (c : Nat) (v7 v9 v10 : Value) (wr : World) : Prop :=
  ∃ k : Nat, k ≤ 52 ∧ v7 = .int .i64 (1 + k) ∧ v9 = .int .i64 ((2 : Int) ^ k) ∧ v10 = .int .i64 k ∧ To w wr t A 1 c 1 (decide (1 ≤ k))

set_option maxRecDepth 100000 in
set_option maxHeartbeats 1000000 in
theorem unit_one (c : Nat) (A : Option Addr) (w : World) (hG : Glob w) (hR : Row w A 1 ones) :
    Calls Tryd.prog 52 #[.slice A 1 c] w fun e w' => e = .returned (.tuple #[.float .f64 0, .int .i64 0, .agg #[.int .i64 9, .int .i64 1]]) ∧ Below w.heap.size w w' := by
  have HR := Lib.hid hR
  have HG := Lib.hid hG
  clear hR hG
  go_enter Tryd.func52, Tryd.ntmps52
  go_wp2_with fail
  have H0 := Lib.hid (Held.new w)
  refine (check_ok 1 c A ones _ (by omega) (HR.out.below ((Below.refl _ _).alloc (Nat.le_refl _) _)) (ones_ok 1)).mono ?_
  rintro e w1 ⟨rfl, hb1⟩
  have H1 := Lib.hid (H0.out.below hb1)
  have HR1 := Lib.hid ((HR.out.below ((Below.refl _ _).alloc (Nat.le_refl _) _)).below hb1)
  clear hb1 H0
  have hz : w.heap.size < w1.heap.size := H1.out.sz
  go_wp2_with fail
  have HT : Tape ((w1.alloc (Obj.cells #[Value.int IntKind.i64 0, Value.int IntKind.i64 0] 26)).alloc (Obj.cells #[Value.slice A 1 c, Value.int IntKind.i64 0, Value.bool false] 85)) (w1.heap.size + 1) A 1 c 0 false := Whole.new _ _ _ _ (by simp)
  have HR2 := Lib.hid ((HR1.out.below ((Below.refl _ _).alloc (Nat.le_refl _) (Obj.cells #[Value.int IntKind.i64 0, Value.int IntKind.i64 0] 26))).below ((Below.refl _ _).alloc (Nat.le_refl _) (Obj.cells #[Value.slice A 1 c, Value.int IntKind.i64 0, Value.bool false] 85)))
  have H2 := Lib.hid ((H1.out.alloc (Obj.cells #[Value.int IntKind.i64 0, Value.int IntKind.i64 0] 26)).alloc (Obj.cells #[Value.slice A 1 c, Value.int IntKind.i64 0, Value.bool false] 85))
  have hA : Apart A 1 (w1.heap.size + 1) := HR1.out.apart (by omega)
  have HA := Lib.hid hA
  have HTT := Lib.hid HT
  clear HT hA H1
  generalize (w1.alloc (Obj.cells #[Value.int IntKind.i64 0, Value.int IntKind.i64 0] 26)).alloc (Obj.cells #[Value.slice A 1 c, Value.int IntKind.i64 0, Value.bool false] 85) = W2 at *
  have hc2 : W2.cell? ⟨w1.heap.size + 1, 2, none⟩ = some (.bool false) := HTT.out.cell 2
  have ht : w.heap.size < w1.heap.size + 1 := by omega
  generalize w1.heap.size + 1 = t at *
  refine wp_loop_rounds 1 ?_
  rw [rounds_succ]
  go_wp2_with fail
  refine (nextb_any t 1 c 0 A ones false W2 HTT.out HR2.out HA.out (by omega) (by simp) (by omega) 1 rfl 1 rfl false rfl).mono ?_
  rintro e w2 ⟨rfl, hTo⟩
  have HTo := Lib.hid hTo
  have hc1 : w2.cell? ⟨t, 1, none⟩ = some (.int .i64 1) := hTo.1.cell 1
  clear hTo hc2
  go_wp2_with fail
  go_loopg [7, 9, 10] 52 (fun gk v7 v9 v10 wr => ∃ k : Nat, gk + k = 52 ∧ v7 = .int .i64 (1 + k) ∧ v9 = .int .i64 ((2 : Int) ^ k) ∧ v10 = .int .i64 k ∧ To w2 wr t A 1 c 1 (decide (1 ≤ k)))
  case atStart => exact ⟨0, rfl, rfl, rfl, rfl, To.refl HTo.out.1⟩
  case round =>
    obtain ⟨k, hk, rfl, rfl, rfl, hTo⟩ := hrel
    have HTo2 := Lib.hid hTo
    clear hTo
    by_cases hlt : k < 52
    · obtain ⟨gk, rfl⟩ : ∃ g', gk = g' + 1 := ⟨gk - 1, by omega⟩
      have C := Lib.hid (nextb_any t 1 c 1 A ones (decide (1 ≤ k)) wr HTo2.out.1 ((HR2.out.grown HTo.out.2 HA.out).grown HTo2.out.2 HA.out) HA.out (by omega) (by simp) (by omega) 0 rfl 1 rfl true rfl)
      have hp : (2 : Int) ^ k < 4503599627370496 := by
        have h1 : 2 ^ k < 2 ^ 52 := Nat.pow_lt_pow_right (by omega) hlt
        rw [pow_cast]; omega
      have hp0 : (0 : Int) ≤ 2 ^ k := by rw [pow_cast]; exact Int.natCast_nonneg _
      have hor := or_bit ((2 : Int) ^ k) 0 hp0 (by omega) (.inl rfl)
      have hs : (2 : Int) ^ (k + 1) = 2 * 2 ^ k + 0 := by rw [Int.pow_succ]; omega
      have HS := Lib.hid hs
      clear hs
      generalize (2 : Int) ^ k = V at *
      go_wp2_with (go_at_call 94; refine C.out.mono ?_; rintro e w3 ⟨rfl, hT3⟩)
      all_goals first | (exfalso; omega) | skip
      go_roundg gk
      case measure => omega
      case rel => exact ⟨k + 1, by omega, by go_num, by rw [HS.out]; go_num, by go_num, by have := HTo2.out.trans hT3; rw [decide_eq_true (by omega)]; exact this⟩
    · obtain rfl : k = 52 := by omega
      go_wp2_with fail
      have H3 := Lib.hid ((H2.out.grown HTo.out.2 ht).grown HTo2.out.2 ht)
      have HG3 := HG.out.below H3.out.be
      refine (make_any 4503599627370496 (-53) (by omega) (by omega) wr HG3.g0 HG3.g1 HG3.sz).mono ?_
      rintro e w4 ⟨rfl, hb4⟩
      generalize makeW (decide ((4503599627370496 : Int) < 0)) (4503599627370496 : Int).natAbs (-53) = y at *
      have HT4 := Lib.hid (HTo2.out.1.below hb4 HTo2.out.1.lt)
      have H4 := Lib.hid (H3.out.below hb4)
      clear hb4 HG3 H3
      go_wp2_with fail
      refine (told_float_short t 1 c 1 A y w4 HT4.out).mono ?_
      rintro e w5 ⟨rfl, hb5⟩
      have H5 := Lib.hid (H4.out.below hb5)
      obtain ⟨c0, c1, f0, f1, sz, be⟩ := H5.out
      clear hb5 be H4
      go_wp2_with fail
      exact bodyPost_ret (v := .tuple #[.float .f64 0, .int .i64 0, .agg #[.int .i64 9, .int .i64 1]]) (by simp [results, Tryd.results52, go_sem, c0, c1]) rfl ⟨rfl, (H5.out.be.setCell (Nat.le_refl _) _).setCell (Nat.le_refl _) _⟩
end Go.Proofs.YtjjfkidddjcdcaaDoor

namespace Go.Proofs.YtjjfkidddjcdcaaDoor
open Go.ChangeShapes Go.WideShapes Go.ChangeAt Go.RowKit

theorem fault_new (a b : Int) (w : World) :
    Calls Tryd.prog 41 #[.int .i64 a, .int .i64 b] w fun e w' => e = .returned (.agg #[.int .i64 a, .int .i64 b]) ∧ Below w.heap.size w w' := by
  go_enter Tryd.func41, Tryd.ntmps41
  go_wp2_with fail
  exact bodyPost_ret (v := .agg #[.int .i64 a, .int .i64 b]) (by simp [results, Tryd.results41, go_sem]) rfl ⟨rfl, (Below.refl _ _).alloc (Nat.le_refl _) _⟩

/-- The integers of a list. -/
def nth (l : List Int) : Nat → Int := fun j => l.getD j 0

theorem flip_two (w : World) (c : Nat) (A : Option Addr) (hR : Row w A 2 (nth [0, 0])) :
    Calls Tryd.prog 10 #[.int .i64 1, .int .i64 3, .slice A 2 c] w fun e w' => e = .returned (.tuple #[.bool true, .int .i64 2, .agg #[.int .i64 0, .int .i64 0]]) ∧ Below w.heap.size w w' :=
  flip_mid 1 3 2 c A (nth [0, 0]) w (by omega) hR (fun j h => by rcases j with _ | _ | j <;> first | exact .inl rfl | omega) (by omega) (by omega) (by omega) true false 2 (by show _ = _; decide) true 2 0 0 (by show _ = _; rfl)
theorem pick_four (w : World) (c : Nat) (A : Option Addr) (hR : Row w A 4 (nth [1, 1, 1, 0])) :
    Calls Tryd.prog 11 #[.int .i64 3, .slice A 4 c] w fun e w' => e = .returned (.tuple #[.int .i64 2, .int .i64 4, .agg #[.int .i64 0, .int .i64 0]]) ∧ Below w.heap.size w w' :=
  pick_mid 3 2 4 c A (nth [1, 1, 1, 0]) w (by omega) hR (fun j h => by rcases j with _ | _ | _ | _ | j <;> first | exact .inl rfl | exact .inr rfl | omega) (by omega) (by omega) (by omega)
    (fun j h => by rcases j with _ | _ | j <;> first | decide | omega) (by show _ ≤ _; decide) 2 false 4 (by show _ = _; decide) 2 4 0 0 (by show _ = _; rfl)

/-- A world that grew by new blocks: what 'flips' holds of it. -/
structure Grew (w w' : World) : Prop where
  be : Below w.heap.size w w'
  gl : Glob w'
theorem Grew.start {w : World} (h : Glob w) : Grew w w := ⟨Below.refl _ _, h⟩
theorem Grew.below {w a b : World} (h : Grew w a) (hb : Below a.heap.size a b) : Grew w b := ⟨h.be.trans (hb.mono h.be.size), h.gl.below hb⟩
theorem Grew.alloc {w a : World} (h : Grew w a) (o : Obj) : Grew w (a.alloc o) := h.below ((Below.refl _ _).alloc (Nat.le_refl _) o)

/-- What the last line of 'flips' reads. -/
def Three (w : World) (b1 b2 b3 : Nat) (w' : World) : Prop := (w'.cell? ⟨b1, 0, none⟩ = some (.int .i64 0) ∧ w'.cell? ⟨b2, 0, none⟩ = some (.int .i64 0) ∧ w'.cell? ⟨b3, 0, none⟩ = some (.int .i64 9) ∧ w'.cell? ⟨b3, 1, none⟩ = some (.int .i64 1)) ∧ b1 < w'.heap.size ∧ b2 < w'.heap.size ∧ b3 < w'.heap.size ∧ Below w.heap.size w w'
theorem Three.below {w a b : World} {b1 b2 b3 : Nat} (h : Three w b1 b2 b3 a) (hb : Below a.heap.size a b) : Three w b1 b2 b3 b := by
  obtain ⟨⟨h1, h2, h3, h4⟩, l1, l2, l3, be⟩ := h
  exact ⟨⟨kept_cell hb l1 h1, kept_cell hb l2 h2, kept_cell hb l3 h3, kept_cell hb l3 h4⟩, Nat.lt_of_lt_of_le l1 hb.size, Nat.lt_of_lt_of_le l2 hb.size, Nat.lt_of_lt_of_le l3 hb.size, be.trans (hb.mono be.size)⟩

set_option maxRecDepth 100000 in
set_option maxHeartbeats 1000000 in
theorem flips_true (w : World) (hG : Glob w) :
    Calls Tryd.prog 9 #[] w fun e w' => e = .returned (.bool true) ∧ Below w.heap.size w w' := by
  have HG := Lib.hid (Grew.start hG)
  clear hG
  go_enter Tryd.func9, Tryd.ntmps9
  go_wp2_with fail
  refine (flip_two _ 2 _ (fun _ => ⟨w.heap.size, 0, rfl, by simp, fun j h => by rcases j with _ | _ | j <;> first | (simp [go_sem, nth]; done) | omega⟩)).mono ?_
  rintro e w1 ⟨rfl, hb1⟩
  have HG1 := Lib.hid ((HG.out.alloc _).below hb1)
  clear hb1 HG
  go_wp2_with fail
  have HG2 := Lib.hid (HG1.out.alloc (Obj.cells #[Value.int IntKind.i64 0, Value.int IntKind.i64 0] 26))
  have HF := Lib.hid (Whole.new w1 26 #[Value.int IntKind.i64 0, Value.int IntKind.i64 0] w1.heap.size rfl)
  have z1 : w1.heap.size < (w1.alloc (Obj.cells #[Value.int IntKind.i64 0, Value.int IntKind.i64 0] 26)).heap.size := by simp
  have z1' : w1.heap.size + 1 = (w1.alloc (Obj.cells #[Value.int IntKind.i64 0, Value.int IntKind.i64 0] 26)).heap.size := by simp
  rw [z1']
  clear z1' HG1
  generalize w1.alloc (Obj.cells #[Value.int IntKind.i64 0, Value.int IntKind.i64 0] 26) = W1 at *
  generalize w1.heap.size = b1 at *
  refine (pick_four _ 4 _ (fun _ => ⟨W1.heap.size, 0, rfl, by simp, fun j h => by rcases j with _ | _ | _ | _ | j <;> first | (simp [go_sem, nth]; done) | omega⟩)).mono ?_
  rintro e w2 ⟨rfl, hb2⟩
  have hb2' : Below W1.heap.size W1 w2 := ((Below.refl _ _).alloc (Nat.le_refl _) _).trans (hb2.mono (by simp))
  have HG3 := Lib.hid (HG2.out.below hb2')
  have HF3 := Lib.hid (HF.out.below hb2' z1)
  have z2 : b1 < w2.heap.size := HF3.out.lt
  clear hb2 hb2' HG2 HF
  go_wp2_with fail
  have HG4 := Lib.hid (HG3.out.alloc (Obj.cells #[Value.int IntKind.i64 0, Value.int IntKind.i64 0] 26))
  have HF4 := Lib.hid (HF3.out.alloc (Obj.cells #[Value.int IntKind.i64 0, Value.int IntKind.i64 0] 26))
  have HH4 := Lib.hid (Whole.new w2 26 #[Value.int IntKind.i64 0, Value.int IntKind.i64 0] w2.heap.size rfl)
  have z4 : w2.heap.size + 1 = (w2.alloc (Obj.cells #[Value.int IntKind.i64 0, Value.int IntKind.i64 0] 26)).heap.size := by simp
  rw [z4]
  have z5 : w2.heap.size < (w2.alloc (Obj.cells #[Value.int IntKind.i64 0, Value.int IntKind.i64 0] 26)).heap.size := by simp
  have z6 : b1 < (w2.alloc (Obj.cells #[Value.int IntKind.i64 0, Value.int IntKind.i64 0] 26)).heap.size := by simp; omega
  clear z4 HG3 HF3
  generalize w2.alloc (Obj.cells #[Value.int IntKind.i64 0, Value.int IntKind.i64 0] 26) = W2 at *
  generalize w2.heap.size = b2 at *
  refine (unit_one 1 _ _ (HG4.out.alloc _).gl (fun _ => ⟨W2.heap.size, 0, rfl, by simp, fun j h => by rcases j with _ | j <;> first | (simp [go_sem, ones]; done) | omega⟩)).mono ?_
  rintro e w3 ⟨rfl, hb3⟩
  have hb3' : Below W2.heap.size W2 w3 := ((Below.refl _ _).alloc (Nat.le_refl _) _).trans (hb3.mono (by simp))
  have HG5 := Lib.hid (HG4.out.below hb3')
  have HF5 := Lib.hid (HF4.out.below hb3' z6)
  have HH5 := Lib.hid (HH4.out.below hb3' z5)
  have z7 : b1 < w3.heap.size := HF5.out.lt
  have z8 : b2 < w3.heap.size := HH5.out.lt
  clear hb3 hb3' HG4 HF4 HH4 z5 z6
  go_wp2_with fail
  have HG6 := Lib.hid (HG5.out.alloc (Obj.cells #[Value.int IntKind.i64 9, Value.int IntKind.i64 1] 26))
  have HF6 := Lib.hid (HF5.out.alloc (Obj.cells #[Value.int IntKind.i64 9, Value.int IntKind.i64 1] 26))
  have HH6 := Lib.hid (HH5.out.alloc (Obj.cells #[Value.int IntKind.i64 9, Value.int IntKind.i64 1] 26))
  have HI6 := Lib.hid (Whole.new w3 26 #[Value.int IntKind.i64 9, Value.int IntKind.i64 1] w3.heap.size rfl)
  clear HG5 HF5 HH5 z7 z8 z2
  generalize w3.alloc (Obj.cells #[Value.int IntKind.i64 9, Value.int IntKind.i64 1] 26) = W3 at *
  generalize w3.heap.size = b3 at *
  have H0 : Three w b1 b2 b3 W3.drew := ⟨⟨HF6.out.cell 0, HH6.out.cell 0, HI6.out.cell 0, HI6.out.cell 1⟩, HF6.out.lt, HH6.out.lt, HI6.out.lt, HG6.out.be.drew⟩
  go_region_held3 (fun w' => (w'.cell? ⟨b1, 0, none⟩ = some (.int .i64 0) ∧ w'.cell? ⟨b2, 0, none⟩ = some (.int .i64 0) ∧ w'.cell? ⟨b3, 0, none⟩ = some (.int .i64 9) ∧ w'.cell? ⟨b3, 1, none⟩ = some (.int .i64 1)) ∧ b1 < w'.heap.size ∧ b2 < w'.heap.size ∧ b3 < w'.heap.size ∧ Below w.heap.size w w') (first | exact H0 | exact Three.below H0 hb) (first | (go_at_call 41; refine (fault_new 9 1 _).mono ?_; rintro e w4 ⟨rfl, hb⟩))
  go_wp2_with fail
  go_ret
  exact ⟨rfl, (Three.below H0 hb).2.2.2.2⟩
end Go.Proofs.YtjjfkidddjcdcaaDoor
