/- Proved here: the closed fact 'waves' of package enclosurelaw at this program. Conditions: math's two rows of numbers are as the program's text lays them. -/
import Derived.Test.YtgeebjfbcjhifaaDoorTrans
import Derived.Test.YtgeebjfbcjhifaaDoorConv
namespace Go.Proofs.YtgeebjfbcjhifaaDoor
open Go.ChangeShapes Go.WideShapes Go.ChangeAt Go.RowKit

def lit4 (a b c d : Int) (i : Nat) : Int := if i = 0 then a else if i = 1 then b else if i = 2 then c else d
theorem row4 {w : World} {g : Nat} {a b c d : Int} (h : Whole w g 3 #[.int .i64 a, .int .i64 b, .int .i64 c, .int .i64 d]) : Row w (some ⟨g, 0, none⟩) 4 (lit4 a b c d) := fun _ =>
  ⟨g, 0, rfl, h.lt, fun j hj => by
    rw [Nat.zero_add, h.cell j]
    match j, hj with
    | 0, _ => rfl
    | 1, _ => rfl
    | 2, _ => rfl
    | 3, _ => rfl
    | n + 4, h => exact absurd h (by omega)⟩
theorem row3 {w : World} {g : Nat} {a b c : Int} (h : Whole w g 3 #[.int .i64 a, .int .i64 b, .int .i64 c]) : Row w (some ⟨g, 0, none⟩) 3 (lit4 a b c 0) := fun _ =>
  ⟨g, 0, rfl, h.lt, fun j hj => by
    rw [Nat.zero_add, h.cell j]
    match j, hj with
    | 0, _ => rfl
    | 1, _ => rfl
    | 2, _ => rfl
    | n + 3, h => exact absurd h (by omega)⟩
theorem row2 {w : World} {g : Nat} {a b : Int} (h : Whole w g 3 #[.int .i64 a, .int .i64 b]) : Row w (some ⟨g, 0, none⟩) 2 (lit4 a b 0 0) := fun _ =>
  ⟨g, 0, rfl, h.lt, fun j hj => by
    rw [Nat.zero_add, h.cell j]
    match j, hj with
    | 0, _ => rfl
    | 1, _ => rfl
    | n + 2, h => exact absurd h (by omega)⟩
theorem crow4 {w : World} {g : Nat} (h : Whole w g 37 #[.complex .f64 4607182418800017408 0, .complex .f64 4611686018427387904 0, .complex .f64 4613937818241073152 0, .complex .f64 4616189618054758400 0]) : CRow w (some ⟨g, 0, none⟩) 4 l4 := fun _ =>
  ⟨g, 0, rfl, h.lt, fun j hj => by
    rw [Nat.zero_add, h.cell j]
    match j, hj with
    | 0, _ => rfl
    | 1, _ => rfl
    | 2, _ => rfl
    | 3, _ => rfl
    | n + 4, h => exact absurd h (by omega)⟩
theorem Row.congr {w : World} {A : Option Addr} {n : Nat} {f g : Nat → Int} (h : Row w A n f) (e : ∀ j, j < n → f j = g j) : Row w A n g := fun hn => by
  obtain ⟨b, off, ha, hlt, hc⟩ := h hn
  exact ⟨b, off, ha, hlt, fun j hj => by rw [← e j hj]; exact hc j hj⟩
theorem fold4 : ∀ j, j < 4 → convS 3 3 2 (lit4 1 2 3 0) (lit4 4 5 0 0) 8 j = lit4 4 13 22 15 j := by decide +kernel
theorem low4 : Low 998244353 (fun j => if j < 4 then j + 1 else 0) := fun j => by show (if j < 4 then j + 1 else 0) < 998244353; split <;> omega
theorem wave4' : ∀ j, j < 4 → ((modS 998244353 false 2 (fun j => if j < 4 then j + 1 else 0) j : Nat) : Int) = lit4 10 173167434 998244351 825076915 j := by decide +kernel
theorem trans4 : (wheelC false 2 l4 0).1 = 4621819117588971520 ∧ (wheelC false 2 l4 1).2 = 4611686018427387904 := by decide +kernel

set_option maxRecDepth 100000 in
set_option maxHeartbeats 8000000 in
theorem waves_any (w : World) (hS : Sincos w) : Calls Tryd.prog 4 #[] w fun e w' => e = .returned (.bool true) ∧ Below w.heap.size w w' := by
  have HS := Lib.hid hS
  clear hS
  go_enter Tryd.func4, Tryd.ntmps4
  go_wp2_with fail
  have HW1 : Hid (Whole (w.alloc (Obj.cells #[.int .i64 1, .int .i64 2, .int .i64 3, .int .i64 4] 3)) w.heap.size 3 #[.int .i64 1, .int .i64 2, .int .i64 3, .int .i64 4]) := Lib.hid (Whole.new _ _ _ _ rfl)
  have HB1 := Lib.hid ((Below.refl w.heap.size w).alloc (Nat.le_refl _) (Obj.cells #[.int .i64 1, .int .i64 2, .int .i64 3, .int .i64 4] 3))
  generalize w.alloc (Obj.cells #[.int .i64 1, .int .i64 2, .int .i64 3, .int .i64 4] 3) = W1 at *
  have HC1 := Lib.hid (whole_any 2 4 4 false (some ⟨w.heap.size, 0, none⟩) (fun j => if j < 4 then j + 1 else 0) W1 (by omega) (Lib.hid rfl) (by omega) (by omega) (Lib.hid rfl) ((row4 HW1.out).congr (fun j hj => by
    match j, hj with
    | 0, _ => rfl
    | 1, _ => rfl
    | 2, _ => rfl
    | 3, _ => rfl
    | n + 4, h => exact absurd h (by omega))) low4)
  refine HC1.out.mono ?_
  rintro e w2 ⟨rfl, hb2, hn2⟩
  have HR2 := Lib.hid (hn2.row.congr wave4')
  have HB2 := Lib.hid (HB1.out.trans (hb2.mono HB1.out.size))
  have hz2 := hn2.lt
  clear hb2 hn2 HC1 HW1 HB1
  generalize W1.heap.size + 3 = E1 at *
  clear W1
  go_wp2_with fail
  have HBn : Hid (Below w2.heap.size w2 (((w2.alloc (Obj.cells #[.int .i64 0, .int .i64 0] 26)).alloc (Obj.cells #[.int .i64 1, .int .i64 2, .int .i64 3] 3)).alloc (Obj.cells #[.int .i64 4, .int .i64 5] 3))) := Lib.hid ((((Below.refl w2.heap.size w2).alloc (Nat.le_refl _) (Obj.cells #[.int .i64 0, .int .i64 0] 26)).alloc (by simp) (Obj.cells #[.int .i64 1, .int .i64 2, .int .i64 3] 3)).alloc (by simp; omega) (Obj.cells #[.int .i64 4, .int .i64 5] 3))
  have HF3 : Hid (Whole (((w2.alloc (Obj.cells #[.int .i64 0, .int .i64 0] 26)).alloc (Obj.cells #[.int .i64 1, .int .i64 2, .int .i64 3] 3)).alloc (Obj.cells #[.int .i64 4, .int .i64 5] 3)) w2.heap.size 26 #[.int .i64 0, .int .i64 0]) := Lib.hid (((Whole.new _ _ _ _ rfl).alloc _).alloc _)
  have HX3 : Hid (Whole (((w2.alloc (Obj.cells #[.int .i64 0, .int .i64 0] 26)).alloc (Obj.cells #[.int .i64 1, .int .i64 2, .int .i64 3] 3)).alloc (Obj.cells #[.int .i64 4, .int .i64 5] 3)) (w2.heap.size + 1) 3 #[.int .i64 1, .int .i64 2, .int .i64 3]) := Lib.hid ((Whole.new _ _ _ _ (by simp)).alloc _)
  have HY3 : Hid (Whole (((w2.alloc (Obj.cells #[.int .i64 0, .int .i64 0] 26)).alloc (Obj.cells #[.int .i64 1, .int .i64 2, .int .i64 3] 3)).alloc (Obj.cells #[.int .i64 4, .int .i64 5] 3)) (w2.heap.size + 1 + 1) 3 #[.int .i64 4, .int .i64 5]) := Lib.hid (Whole.new _ _ _ _ (by simp))
  have HR3 := Lib.hid (HR2.out.below HBn.out)
  have HB3 := Lib.hid (HB2.out.trans (HBn.out.mono HB2.out.size))
  clear HR2 HB2 HBn hz2
  generalize ((w2.alloc (Obj.cells #[.int .i64 0, .int .i64 0] 26)).alloc (Obj.cells #[.int .i64 1, .int .i64 2, .int .i64 3] 3)).alloc (Obj.cells #[.int .i64 4, .int .i64 5] 3) = W3 at *
  generalize w2.heap.size = G2 at *
  clear w2
  have HC3 := Lib.hid (conv_any 3 8 4 3 3 2 2 (some ⟨G2 + 1, 0, none⟩) (some ⟨G2 + 1 + 1, 0, none⟩) (lit4 1 2 3 0) (lit4 4 5 0 0) W3 (by omega) (Lib.hid rfl) (by omega) (Lib.hid (by decide)) (by omega) (by omega) (by omega) (by omega) (by omega) (by omega) (row3 HX3.out) (row2 HY3.out) (fun j hj => by
    match j, hj with
    | 0, _ => exact ⟨by decide, by decide⟩
    | 1, _ => exact ⟨by decide, by decide⟩
    | 2, _ => exact ⟨by decide, by decide⟩
    | n + 3, h => exact absurd h (by omega)) (fun j hj => by
    match j, hj with
    | 0, _ => exact ⟨by decide, by decide⟩
    | 1, _ => exact ⟨by decide, by decide⟩
    | n + 2, h => exact absurd h (by omega)))
  refine HC3.out.mono ?_
  rintro e w4 ⟨E2, rfl, hE2, hb4, hr4⟩
  have HQ4 := Lib.hid (hr4.congr fold4)
  have HF4 := Lib.hid (HF3.out.below hb4 HF3.out.lt)
  have HR4 := Lib.hid (HR3.out.below hb4)
  have HB4 := Lib.hid (HB3.out.trans (hb4.mono HB3.out.size))
  clear hb4 hr4 HC3 HX3 HY3 HF3 HR3 HB3 hE2
  clear W3
  go_wp2_with fail
  have HBn : Hid (Below w4.heap.size w4 ((w4.alloc (Obj.cells #[.int .i64 0, .int .i64 0] 26)).alloc (Obj.cells #[.complex .f64 4607182418800017408 0, .complex .f64 4611686018427387904 0, .complex .f64 4613937818241073152 0, .complex .f64 4616189618054758400 0] 37))) := Lib.hid (((Below.refl w4.heap.size w4).alloc (Nat.le_refl _) (Obj.cells #[.int .i64 0, .int .i64 0] 26)).alloc (by simp) (Obj.cells #[.complex .f64 4607182418800017408 0, .complex .f64 4611686018427387904 0, .complex .f64 4613937818241073152 0, .complex .f64 4616189618054758400 0] 37))
  have HG5 : Hid (Whole ((w4.alloc (Obj.cells #[.int .i64 0, .int .i64 0] 26)).alloc (Obj.cells #[.complex .f64 4607182418800017408 0, .complex .f64 4611686018427387904 0, .complex .f64 4613937818241073152 0, .complex .f64 4616189618054758400 0] 37)) w4.heap.size 26 #[.int .i64 0, .int .i64 0]) := Lib.hid ((Whole.new _ _ _ _ rfl).alloc _)
  have HX5 : Hid (Whole ((w4.alloc (Obj.cells #[.int .i64 0, .int .i64 0] 26)).alloc (Obj.cells #[.complex .f64 4607182418800017408 0, .complex .f64 4611686018427387904 0, .complex .f64 4613937818241073152 0, .complex .f64 4616189618054758400 0] 37)) (w4.heap.size + 1) 37 #[.complex .f64 4607182418800017408 0, .complex .f64 4611686018427387904 0, .complex .f64 4613937818241073152 0, .complex .f64 4616189618054758400 0]) := Lib.hid (Whole.new _ _ _ _ (by simp))
  have HR5 := Lib.hid (HR4.out.below HBn.out)
  have HQ5 := Lib.hid (HQ4.out.below HBn.out)
  have HF5 := Lib.hid (HF4.out.below HBn.out HF4.out.lt)
  have HB5 := Lib.hid (HB4.out.trans (HBn.out.mono HB4.out.size))
  clear HR4 HQ4 HF4 HB4 HBn
  generalize (w4.alloc (Obj.cells #[.int .i64 0, .int .i64 0] 26)).alloc (Obj.cells #[.complex .f64 4607182418800017408 0, .complex .f64 4611686018427387904 0, .complex .f64 4613937818241073152 0, .complex .f64 4616189618054758400 0] 37) = W5 at *
  generalize w4.heap.size = G4 at *
  clear w4
  have HC5 := Lib.hid (trans_any 4 (some ⟨G4 + 1, 0, none⟩) W5 (crow4 HX5.out) (HS.out.below HB5.out))
  refine HC5.out.mono ?_
  rintro e w6 ⟨E3, rfl, hE3, hb6, hn6⟩
  have HR6 := Lib.hid (HR5.out.below hb6)
  have HQ6 := Lib.hid (HQ5.out.below hb6)
  have HF6 := Lib.hid (HF5.out.below hb6 HF5.out.lt)
  have HG6 := Lib.hid (HG5.out.below hb6 HG5.out.lt)
  have HB6 := Lib.hid (HB5.out.trans (hb6.mono HB5.out.size))
  have HN6 := Lib.hid hn6
  clear hb6 hn6 HC5 HR5 HQ5 HF5 HG5 HB5 HX5 hE3
  clear W5
  have cf0 := HF6.out.cell 0
  have cg0 := HG6.out.cell 0
  have hfl := HF6.out.lt
  have hgl := HG6.out.lt
  have z4 : ((4 : Int) == 4) = true := rfl
  go_wp2_with fail
  have HBn : Hid (Below w6.heap.size w6 ((w6.alloc (Obj.cells #[.int .i64 0, .int .i64 0] 26)).alloc (Obj.cells #[.int .i64 10, .int .i64 173167434, .int .i64 998244351, .int .i64 825076915] 3))) := Lib.hid (((Below.refl w6.heap.size w6).alloc (Nat.le_refl _) (Obj.cells #[.int .i64 0, .int .i64 0] 26)).alloc (by simp) (Obj.cells #[.int .i64 10, .int .i64 173167434, .int .i64 998244351, .int .i64 825076915] 3))
  have HL7 : Hid (Whole ((w6.alloc (Obj.cells #[.int .i64 0, .int .i64 0] 26)).alloc (Obj.cells #[.int .i64 10, .int .i64 173167434, .int .i64 998244351, .int .i64 825076915] 3)) (w6.heap.size + 1) 3 #[.int .i64 10, .int .i64 173167434, .int .i64 998244351, .int .i64 825076915]) := Lib.hid (Whole.new _ _ _ _ (by simp))
  have HR7 := Lib.hid (HR6.out.below HBn.out)
  have HQ7 := Lib.hid (HQ6.out.below HBn.out)
  have HN7 : Hid (CNums ((w6.alloc (Obj.cells #[.int .i64 0, .int .i64 0] 26)).alloc (Obj.cells #[.int .i64 10, .int .i64 173167434, .int .i64 998244351, .int .i64 825076915] 3)) E3 4 (wheelC false 2 l4)) := Lib.hid (World.rowIs.alloc (World.rowIs.alloc HN6.out _) _)
  have HB7 := Lib.hid (HB6.out.trans (HBn.out.mono HB6.out.size))
  clear HR6 HQ6 HN6 HB6 HBn HF6 HG6 cf0 cg0 hfl hgl
  generalize (w6.alloc (Obj.cells #[.int .i64 0, .int .i64 0] 26)).alloc (Obj.cells #[.int .i64 10, .int .i64 173167434, .int .i64 998244351, .int .i64 825076915] 3) = W7 at *
  generalize w6.heap.size + 1 = L7 at *
  refine (lists_same 4 4 4 (some ⟨E1, 0, none⟩) (some ⟨L7, 0, none⟩) (lit4 10 173167434 998244351 825076915) W7 HR7.out (row4 HL7.out) (by omega)).mono ?_
  rintro e w8 ⟨rfl, hb8⟩
  have HQ8 := Lib.hid (HQ7.out.below hb8)
  have HN8 : Hid (CNums w8 E3 4 (wheelC false 2 l4)) := Lib.hid (World.rowIs.of_block HN7.out (hb8.block E3 HN7.out.lt))
  have HB8 := Lib.hid (HB7.out.trans (hb8.mono HB7.out.size))
  clear hb8 HR7 HQ7 HN7 HB7 HL7
  go_wp2_with fail
  have HL9 : Hid (Whole (w8.alloc (Obj.cells #[.int .i64 4, .int .i64 13, .int .i64 22, .int .i64 15] 3)) w8.heap.size 3 #[.int .i64 4, .int .i64 13, .int .i64 22, .int .i64 15]) := Lib.hid (Whole.new _ _ _ _ rfl)
  have HQ9 := Lib.hid (HQ8.out.below ((Below.refl w8.heap.size w8).alloc (Nat.le_refl _) (Obj.cells #[.int .i64 4, .int .i64 13, .int .i64 22, .int .i64 15] 3)))
  have HN9 : Hid (CNums (w8.alloc (Obj.cells #[.int .i64 4, .int .i64 13, .int .i64 22, .int .i64 15] 3)) E3 4 (wheelC false 2 l4)) := Lib.hid (World.rowIs.alloc HN8.out _)
  have HB9 := Lib.hid (HB8.out.alloc HB8.out.size (Obj.cells #[.int .i64 4, .int .i64 13, .int .i64 22, .int .i64 15] 3))
  clear HQ8 HN8 HB8
  generalize w8.alloc (Obj.cells #[.int .i64 4, .int .i64 13, .int .i64 22, .int .i64 15] 3) = W9 at *
  generalize w8.heap.size = L9 at *
  refine (lists_same 4 4 4 (some ⟨E2, 0, none⟩) (some ⟨L9, 0, none⟩) (lit4 4 13 22 15) W9 HQ9.out (row4 HL9.out) (by omega)).mono ?_
  rintro e w10 ⟨rfl, hb10⟩
  have HN10 : Hid (CNums w10 E3 4 (wheelC false 2 l4)) := Lib.hid (World.rowIs.of_block HN9.out (hb10.block E3 HN9.out.lt))
  have HB10 := Lib.hid (HB9.out.trans (hb10.mono HB9.out.size))
  obtain ⟨t0, t1⟩ := trans4
  have c0 := HN10.out.cell 0 (by omega)
  have c1 := HN10.out.cell 1 (by omega)
  rw [t0] at c0
  rw [t1] at c1
  have o1 : (FloatKind.f64.format.order 4412964684869664768 4472406533629990549 == some .lt) = true := by decide +kernel
  have o2 : (FloatKind.f64.format.order 0 4412964684869664768 == some .lt) = true := by decide +kernel
  have q1 := fun w => run_float_arith (P := Tryd.prog) w .sub 34 .f64 4621819117588971520 4621819117588971520 0 (by decide +kernel)
  have q2 := fun w => run_float_arith (P := Tryd.prog) w .sub 34 .f64 4611686018427387904 4611686018427387904 0 (by decide +kernel)
  have CZ := Lib.hid (fun w => abs_low 0 w (by omega))
  clear hb10 HQ9 HN9 HB9 HL9 t0 t1 HN10
  clear W9
  generalize (wheelC false 2 l4 0).2 = y0 at *
  generalize (wheelC false 2 l4 1).1 = y1 at *
  go_wp2_with (go_at_call 10; refine (CZ.out _).mono ?_; rintro e w' ⟨rfl, rfl⟩)
  go_ret
  exact ⟨rfl, HB10.out⟩
end Go.Proofs.YtgeebjfbcjhifaaDoor
