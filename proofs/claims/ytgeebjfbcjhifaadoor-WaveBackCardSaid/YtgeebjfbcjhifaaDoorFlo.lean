/- Proved here: contracts of package math's IsNaN, IsInf, Abs (at floats that are not below nought, and finite) at this program, and the steps of Cos and Sin as plain functions of bits. Conditions: as each theorem says. -/
import Derived.Test.YtgeebjfbcjhifaaDoorClos
import Derived.Laws.FloatArith
import Derived.Laws.ComplexArith
namespace Go.Proofs.YtgeebjfbcjhifaaDoor
open Go.ChangeShapes Go.WideShapes Go.ChangeAt Go.RowKit

theorem call_bits (b : Nat) (w : World) : (callFunc 25 #[.float .f64 b]).run Tryd.prog w = .ok (.value (.int .u64 b)) w :=
  (run_callFunc_extern (e := Extern.MathFloatBits.float64bits) Tryd.func25 (by kernel_rfl) (by kernel_rfl) (by kernel_rfl) (by kernel_rfl) #[.float .f64 b] w).trans rfl
theorem call_float (n : Int) (w : World) : (callFunc 24 #[.int .u64 n]).run Tryd.prog w = .ok (.value (.float .f64 n.toNat)) w :=
  (run_callFunc_extern (e := Extern.MathFloatBits.float64frombits) Tryd.func24 (by kernel_rfl) (by kernel_rfl) (by kernel_rfl) (by kernel_rfl) #[.int .u64 n] w).trans rfl
theorem and_abs (b : Nat) (hb : b < 9223372036854775808) : bits .andNot .u64 (b : Int) 9223372036854775808 = (b : Int) := by
  have h : (BitVec.ofInt 64 (b : Int) &&& ~~~ BitVec.ofInt 64 9223372036854775808).toNat = b := by
    rw [BitVec.toNat_and, BitVec.ofInt_natCast, BitVec.toNat_ofNat, Nat.mod_eq_of_lt (by omega)]
    show b &&& 9223372036854775807 = b
    rw [Nat.and_two_pow_sub_one_eq_mod b 63]
    omega
  show IntKind.u64.wrap ((BitVec.ofInt 64 (b : Int) &&& ~~~ BitVec.ofInt 64 9223372036854775808).toNat : Int) = _
  rw [h, IntKind.wrap_u64]
  omega
theorem abs_low (b : Nat) (w : World) (hb : b < 9223372036854775808) : Calls Tryd.prog 10 #[.float .f64 b] w fun e w' => e = .returned (.float .f64 b) ∧ w' = w := by
  have cb := call_bits
  have cf := call_float
  have h := and_abs b hb
  go_enter Tryd.func10, Tryd.ntmps10
  go_wp2_with fail
  go_ret
  exact ⟨by simp, rfl⟩
theorem isnan_no (b : Nat) (w : World) (h : (FloatKind.f64.format.order b b != some .eq) = false) : Calls Tryd.prog 53 #[.float .f64 b] w fun e w' => e = .returned (.bool false) ∧ w' = w := by
  go_enter Tryd.func53, Tryd.ntmps53
  go_wp2_with fail
  go_ret
  exact ⟨rfl, rfl⟩
theorem isinf_no (b : Nat) (w : World) (hb : b < 9223372036854775808) (h : (FloatKind.f64.format.order b 9218868437227405311 == some .gt) = false) : Calls Tryd.prog 52 #[.float .f64 b, .int .i64 0] w fun e w' => e = .returned (.bool false) ∧ w' = w := by
  go_enter Tryd.func52, Tryd.ntmps52
  go_wp2_with (go_at_call 10; refine (abs_low _ _ hb).mono ?_; rintro e w' ⟨rfl, rfl⟩)
  go_ret
  exact ⟨rfl, rfl⟩

/-- What stands in math's two rows of numbers. -/
structure Sincos (w : World) : Prop where
  s0 : w.cell? ⟨1, 0, none⟩ = some (.float .f64 4460209587652500685)
  s1 : w.cell? ⟨1, 1, none⟩ = some (.float .f64 13716528389658582877)
  s2 : w.cell? ⟨1, 2, none⟩ = some (.float .f64 4523617212962785441)
  s3 : w.cell? ⟨1, 3, none⟩ = some (.float .f64 13774824197404483331)
  s4 : w.cell? ⟨1, 4, none⟩ = some (.float .f64 4575957461383575504)
  s5 : w.cell? ⟨1, 5, none⟩ = some (.float .f64 13818544856648471880)
  c0 : w.cell? ⟨2, 0, none⟩ = some (.float .f64 13666448263388469915)
  c1 : w.cell? ⟨2, 1, none⟩ = some (.float .f64 4477121864728985349)
  c2 : w.cell? ⟨2, 2, none⟩ = some (.float .f64 13732177093698800582)
  c3 : w.cell? ⟨2, 3, none⟩ = some (.float .f64 4537941361668146421)
  c4 : w.cell? ⟨2, 4, none⟩ = some (.float .f64 13787419979223748497)
  c5 : w.cell? ⟨2, 5, none⟩ = some (.float .f64 4586165620538955083)
  sz : 2 < w.heap.size
theorem Sincos.below {w w' : World} (h : Sincos w) (hb : Below w.heap.size w w') : Sincos w' := by
  have k1 : ∀ j, w'.cell? ⟨1, j, none⟩ = w.cell? ⟨1, j, none⟩ := fun j => hb.cell (p := ⟨1, j, none⟩) (by have := h.sz; show 1 < _; omega)
  have k2 : ∀ j, w'.cell? ⟨2, j, none⟩ = w.cell? ⟨2, j, none⟩ := fun j => hb.cell (p := ⟨2, j, none⟩) h.sz
  exact ⟨(k1 _).trans h.s0, (k1 _).trans h.s1, (k1 _).trans h.s2, (k1 _).trans h.s3, (k1 _).trans h.s4, (k1 _).trans h.s5, (k2 _).trans h.c0, (k2 _).trans h.c1, (k2 _).trans h.c2, (k2 _).trans h.c3, (k2 _).trans h.c4, (k2 _).trans h.c5, Nat.lt_of_lt_of_le h.sz hb.size⟩
theorem Sincos.drewN {w : World} (h : Sincos w) (n : Nat) : Sincos (w.drewN n) := ⟨h.s0, h.s1, h.s2, h.s3, h.s4, h.s5, h.c0, h.c1, h.c2, h.c3, h.c4, h.c5, h.sz⟩
theorem Sincos.grown {w w' : World} {T : Nat} (h : Sincos w) (hb : w.grownBy w' (some T)) (hT : 2 < T) : Sincos w' := by
  have k1 : ∀ j, w'.cell? ⟨1, j, none⟩ = w.cell? ⟨1, j, none⟩ := fun j => World.cell?_of_block (a := ⟨1, j, none⟩) (hb.block 1 (by have := h.sz; omega) (fun q => by injection q; omega))
  have k2 : ∀ j, w'.cell? ⟨2, j, none⟩ = w.cell? ⟨2, j, none⟩ := fun j => World.cell?_of_block (a := ⟨2, j, none⟩) (hb.block 2 h.sz (fun q => by injection q; omega))
  exact ⟨(k1 _).trans h.s0, (k1 _).trans h.s1, (k1 _).trans h.s2, (k1 _).trans h.s3, (k1 _).trans h.s4, (k1 _).trans h.s5, (k2 _).trans h.c0, (k2 _).trans h.c1, (k2 _).trans h.c2, (k2 _).trans h.c3, (k2 _).trans h.c4, (k2 _).trans h.c5, Nat.lt_of_lt_of_le h.sz hb.size⟩

def fm (a b : Nat) : Option Nat := floatBits .mul .f64 a b
def fa (a b : Nat) : Option Nat := floatBits .add .f64 a b
def fs (a b : Nat) : Option Nat := floatBits .sub .f64 a b
/-- x less y fourths of a turn's half. -/
def redZ (x y : Nat) : Option Nat :=
  (fm y 4605249456957292544).bind fun a1 => (fs x a1).bind fun a2 => (fm y 4495793288086814720).bind fun a3 => (fs a2 a3).bind fun a4 => (fm y 4388835458085048688).bind fun a5 => fs a4 a5
def polyS (z zz : Nat) : Option Nat :=
  (fm z zz).bind fun q => (fm 4460209587652500685 zz).bind fun p1 => (fa p1 13716528389658582877).bind fun p2 => (fm p2 zz).bind fun p3 => (fa p3 4523617212962785441).bind fun p4 => (fm p4 zz).bind fun p5 => (fa p5 13774824197404483331).bind fun p6 => (fm p6 zz).bind fun p7 => (fa p7 4575957461383575504).bind fun p8 => (fm p8 zz).bind fun p9 => (fa p9 13818544856648471880).bind fun p10 => (fm q p10).bind fun p11 => fa z p11
def polyC (zz : Nat) : Option Nat :=
  (fm 4602678819172646912 zz).bind fun b1 => (fs 4607182418800017408 b1).bind fun b2 => (fm zz zz).bind fun q => (fm 13666448263388469915 zz).bind fun p1 => (fa p1 4477121864728985349).bind fun p2 => (fm p2 zz).bind fun p3 => (fa p3 13732177093698800582).bind fun p4 => (fm p4 zz).bind fun p5 => (fa p5 4537941361668146421).bind fun p6 => (fm p6 zz).bind fun p7 => (fa p7 13787419979223748497).bind fun p8 => (fm p8 zz).bind fun p9 => (fa p9 4586165620538955083).bind fun p10 => (fm q p10).bind fun p11 => fa b2 p11
/-- The float of the even number that y is, or its next. -/
def evenF (j : Nat) : Nat := if j = 0 then 0 else if j ≤ 2 then 4611686018427387904 else if j ≤ 4 then 4616189618054758400 else if j ≤ 6 then 4618441417868443648 else 4620693217682128896
def octOf (j : Nat) : Nat := (j + 1) / 2 % 4
def trigV (x j : Nat) (sine : Bool) : Option Nat :=
  (redZ x (evenF j)).bind fun z => (fm z z).bind fun zz => if (octOf j % 2 == 1) == sine then polyC zz else polyS z zz
/-- The last step: its sign. -/
def trigN (j : Nat) (sine : Bool) : Bool := if sine then decide (2 ≤ octOf j) else decide (octOf j = 1 ∨ octOf j = 2)
end Go.Proofs.YtgeebjfbcjhifaaDoor
