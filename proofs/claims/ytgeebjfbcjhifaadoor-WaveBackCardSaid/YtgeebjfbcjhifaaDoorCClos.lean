/- Proved here: contracts of package wave's wheel, of complex numbers, and what it calls, at this program. Conditions: as each theorem says. -/
import Derived.Test.YtgeebjfbcjhifaaDoorOnce
import Derived.Test.YtgeebjfbcjhifaaDoorTurned
import Derived.Test.YtgeebjfbcjhifaaDoorWheel
namespace Go.Proofs.YtgeebjfbcjhifaaDoor
open Go.ChangeShapes Go.WideShapes Go.ChangeAt Go.RowKit

/-- The words of a complex number's parts. -/
abbrev Cx : Type := Nat × Nat
def cval (z : Cx) : Value := .complex .f64 z.1 z.2
def mulB (a b : Cx) : Option Cx := cMulBits a.1 a.2 b.1 b.2
def addB (a b : Cx) : Option Cx := cSumBits .add .f64 a.1 a.2 b.1 b.2
def subB (a b : Cx) : Option Cx := cSumBits .sub .f64 a.1 a.2 b.1 b.2

theorem mulb_any (a b c d re im : Nat) (w : World) (h : cMulBits a b c d = some (re, im)) : Calls Tryd.prog 19 #[.complex .f64 a b, .complex .f64 c d] w fun e w' => e = .returned (.complex .f64 re im) ∧ w' = w := by
  unfold cMulBits at h
  obtain ⟨p1, e1, h⟩ := opt_bind h
  obtain ⟨p2, e2, h⟩ := opt_bind h
  obtain ⟨p3, e3, h⟩ := opt_bind h
  obtain ⟨p4, e4, h⟩ := opt_bind h
  obtain ⟨p5, e5, h⟩ := opt_bind h
  obtain ⟨p6, e6, h⟩ := opt_bind h
  injection h with h
  injection h with h1 h2
  subst h1 h2
  have k1 := fun w => run_float_arith (P := Tryd.prog) w .mul 34 .f64 _ _ _ e1
  have k2 := fun w => run_float_arith (P := Tryd.prog) w .mul 34 .f64 _ _ _ e2
  have k3 := fun w => run_float_arith (P := Tryd.prog) w .sub 34 .f64 _ _ _ e3
  have k4 := fun w => run_float_arith (P := Tryd.prog) w .mul 34 .f64 _ _ _ e4
  have k5 := fun w => run_float_arith (P := Tryd.prog) w .mul 34 .f64 _ _ _ e5
  have k6 := fun w => run_float_arith (P := Tryd.prog) w .add 34 .f64 _ _ _ e6
  clear e1 e2 e3 e4 e5 e6
  go_enter Tryd.func19, Tryd.ntmps19
  go_wp2_with fail
  go_ret
  exact ⟨rfl, rfl⟩
theorem addb_any (a b c d re im : Nat) (w : World) (h : cSumBits .add .f64 a b c d = some (re, im)) : Calls Tryd.prog 20 #[.complex .f64 a b, .complex .f64 c d] w fun e w' => e = .returned (.complex .f64 re im) ∧ w' = w := by
  have k := fun w => run_complex_sum (P := Tryd.prog) w .add (Or.inl rfl) 37 .f64 _ _ _ _ _ _ h
  clear h
  go_enter Tryd.func20, Tryd.ntmps20
  go_wp2_with fail
  go_ret
  exact ⟨rfl, rfl⟩
theorem subb_any (a b c d re im : Nat) (w : World) (h : cSumBits .sub .f64 a b c d = some (re, im)) : Calls Tryd.prog 21 #[.complex .f64 a b, .complex .f64 c d] w fun e w' => e = .returned (.complex .f64 re im) ∧ w' = w := by
  have k := fun w => run_complex_sum (P := Tryd.prog) w .sub (Or.inr rfl) 37 .f64 _ _ _ _ _ _ h
  clear h
  go_enter Tryd.func21, Tryd.ntmps21
  go_wp2_with fail
  go_ret
  exact ⟨rfl, rfl⟩

/-- The root that wheel asks for. -/
def rootB (back : Bool) (size k : Nat) : Cx := (cosR (64 / size * k), if back then sinR (64 / size * k) else Op.negFloat .f64 (sinR (64 / size * k)))
theorem rootb_any (size k T gt gb : Nat) (back : Bool) (v0 v1 v2 : Value) (w : World) (hs : 1 ≤ size) (hs2 : size ≤ 64) (hm : 64 / size * k < 64) (ht : w.cell? ⟨gt, 0, none⟩ = some (.pointer (some ⟨T, 0, none⟩))) (hb : w.cell? ⟨gb, 0, none⟩ = some (.bool back)) (hr : w.rowIs T 62 67 (tabS v0 v1 v2 64)) :
    Calls Tryd.prog 18 #[.int .i64 (size : Nat), .int .i64 (k : Nat), .pointer (some ⟨gt, 0, none⟩), .pointer (some ⟨gb, 0, none⟩)] w fun e w' => e = .returned (.complex .f64 (rootB back size k).1 (rootB back size k).2) ∧ ∃ q, w' = w.drewN q := by
  have hd : 64 / size ≤ 64 := Nat.div_le_self _ _
  have hcell := World.rowIs.cell hr (i := 3 + 64 / size * k) (by omega)
  unfold tabS at hcell
  rw [if_neg (by omega), if_neg (by omega), if_neg (by omega), if_pos (by omega), show 3 + 64 / size * k - 3 = 64 / size * k by omega] at hcell
  have hR : Hid (rootB back size k = (cosR (64 / size * k), if back then sinR (64 / size * k) else Op.negFloat .f64 (sinR (64 / size * k)))) := Lib.hid rfl
  have e0 : (64 : Int) / (size : Int) = ((64 / size : Nat) : Int) := by rw [Int.natCast_ediv]; rfl
  have e1 : (64 : Int) / (size : Int) * (k : Int) = ((64 / size * k : Nat) : Int) := by rw [e0, Int.natCast_mul]
  have hs0 : (0 : Int) < (size : Int) := by omega
  have m1 : 0 ≤ (64 : Int) / (size : Int) * (k : Int) := by rw [e1]; omega
  have m2 : (64 : Int) / (size : Int) * (k : Int) < 64 := by rw [e1]; omega
  have m3 : ((64 : Int) / (size : Int) * (k : Int)).toNat = 64 / size * k := by rw [e1]; omega
  have kn : ∀ (b : Nat) (w : World), (Op.unary .neg (.float .f64 b)).run Tryd.prog w = .ok (.float .f64 (Op.negFloat .f64 b)) w := fun _ _ => rfl
  have w1 : IntKind.i64.wrap ((64 : Int) / (size : Int) * (k : Int)) = (64 : Int) / (size : Int) * (k : Int) := IntWalk.i64_in _ (by omega)
  clear hr e0 e1
  generalize cosR (64 / size * k) = c at *
  generalize sinR (64 / size * k) = s at *
  generalize rootB back size k = R at *
  obtain ⟨R1, R2⟩ := R
  cases back
  · obtain ⟨rfl, rfl⟩ : R1 = c ∧ R2 = Op.negFloat .f64 s := by have h := hR.out; injection h with h1 h2; exact ⟨h1, h2⟩
    clear hR
    go_enter Tryd.func18, Tryd.ntmps18
    go_wp2_with fail
    go_quiet (fail)
    go_wp2_with fail
    go_ret
    exact ⟨rfl, _, rfl⟩
  · obtain ⟨rfl, rfl⟩ : R1 = c ∧ R2 = s := by have h := hR.out; injection h with h1 h2; exact ⟨h1, h2⟩
    clear hR
    go_enter Tryd.func18, Tryd.ntmps18
    go_wp2_with fail
    go_quiet (fail)
    go_wp2_with fail
    go_ret
    exact ⟨rfl, _, rfl⟩
end Go.Proofs.YtgeebjfbcjhifaaDoor
