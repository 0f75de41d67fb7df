/- Proved here: package math's Ldexp of one at this program. Conditions: as the theorem says. -/
import Derived.Test.YtgeebjfbcjhifaaDoorFlo
namespace Go.Proofs.YtgeebjfbcjhifaaDoor
open Go.ChangeShapes Go.WideShapes Go.ChangeAt Go.RowKit

theorem norm_one (b : Nat) (w : World) (hb : b < 9223372036854775808) (h : (FloatKind.f64.format.order b 4503599627370496 == some .lt) = false) :
    Calls Tryd.prog 54 #[.float .f64 b] w fun e w' => e = .returned (.tuple #[.float .f64 b, .int .i64 0]) ∧ w' = w := by
  go_enter Tryd.func54, Tryd.ntmps54
  go_wp2_with (go_at_call 10; refine (abs_low _ _ hb).mono ?_; rintro e w' ⟨rfl, rfl⟩)
  go_ret2
  exact ⟨rfl, rfl⟩
set_option maxRecDepth 100000 in
set_option maxHeartbeats 1000000 in
theorem ldexp_core (b E r : Nat) (exp : Int) (w : World) (hb : b < 9223372036854775808) (h0 : (FloatKind.f64.format.order b 0 == some .eq) = false) (h1 : (FloatKind.f64.format.order b b != some .eq) = false) (h2 : (FloatKind.f64.format.order b 9218868437227405311 == some .gt) = false)
    (h3 : (FloatKind.f64.format.order b 4503599627370496 == some .lt) = false) (h4 : (b : Int) / 4503599627370496 = 1023) (h5 : bits .and .i64 1023 2047 = 1023) (h6 : bits .andNot .u64 (b : Int) 9218868437227405312 = 0)
    (he1 : -1022 ≤ exp) (he2 : exp ≤ 1000) (hE : exp + 1023 = (E : Int)) (h7 : bits .or .u64 0 ((E : Int) * 4503599627370496) = (E : Int) * 4503599627370496) (h8 : floatBits .mul .f64 4607182418800017408 (E * 4503599627370496) = some r) :
    Calls Tryd.prog 23 #[.float .f64 b, .int .i64 exp] w fun e w' => e = .returned (.float .f64 r) ∧ w' = w := by
  have cb := call_bits
  have cf := call_float
  have C1 := Lib.hid (fun w => isnan_no b w h1)
  have C2 := Lib.hid (fun w => isinf_no b w hb h2)
  have C3 := Lib.hid (fun w => norm_one b w hb h3)
  have hm := fun w => run_float_arith (P := Tryd.prog) w .mul 34 .f64 _ _ _ h8
  have C41 : Hid (∀ w, Calls Tryd.prog 41 #[.float .f64 b, .int .i64 exp] w fun e w' => e = .returned (.float .f64 r) ∧ w' = w) := Lib.hid fun w => by
    clear h1 h2 h3 h8 hb
    go_enter Tryd.func41, Tryd.ntmps41
    go_wp2_with (first | (go_at_call 53; refine (C1.out _).mono ?_; rintro e w2 ⟨rfl, rfl⟩) | (go_at_call 52; refine (C2.out _).mono ?_; rintro e w2 ⟨rfl, rfl⟩) | (go_at_call 54; refine (C3.out _).mono ?_; rintro e w2 ⟨rfl, rfl⟩))
    go_ret
    exact ⟨by simp, rfl⟩
  clear cb cf C1 C2 C3 hm h0 h1 h2 h3 h4 h5 h6 h7 h8 hE hb
  go_enter Tryd.func23, Tryd.ntmps23
  go_wp2_with (go_at_call 41; refine (C41.out _).mono ?_; rintro e w2 ⟨rfl, rfl⟩)
  go_ret
  exact ⟨rfl, rfl⟩
theorem or_low (x : Nat) (hx : x < 18446744073709551616) : bits .or .u64 0 (x : Int) = (x : Int) := by
  show IntKind.u64.wrap ((BitVec.ofInt 64 0 ||| BitVec.ofInt 64 (x : Int)).toNat : Int) = _
  rw [BitVec.toNat_or, BitVec.ofInt_natCast, BitVec.toNat_ofNat, Nat.mod_eq_of_lt (by omega)]
  show IntKind.u64.wrap ((0 ||| x : Nat) : Int) = _
  rw [Nat.zero_or, IntKind.wrap_u64]
  omega
theorem ldexp_one (E r : Nat) (exp : Int) (w : World) (he1 : -1022 ≤ exp) (he2 : exp ≤ 1000) (hE : exp + 1023 = (E : Int)) (h : floatBits .mul .f64 4607182418800017408 (E * 4503599627370496) = some r) :
    Calls Tryd.prog 23 #[.float .f64 4607182418800017408, .int .i64 exp] w fun e w' => e = .returned (.float .f64 r) ∧ w' = w :=
  ldexp_core 4607182418800017408 E r exp w (by decide) (by decide +kernel) (by decide +kernel) (by decide +kernel) (by decide +kernel) (by decide) (by decide +kernel) (by decide +kernel) he1 he2 hE (by
    have e := or_low (E * 4503599627370496) (by omega)
    rw [show ((E * 4503599627370496 : Nat) : Int) = (E : Int) * 4503599627370496 by omega] at e
    exact e) h
theorem ldexp_48 (w : World) : Calls Tryd.prog 23 #[.float .f64 4607182418800017408, .int .i64 (-48)] w fun e w' => e = .returned (.float .f64 4391009636686233600) ∧ w' = w :=
  ldexp_one 975 _ (-48) w (by decide) (by decide) (by decide) (by decide +kernel)
theorem ldexp_1000 (w : World) : Calls Tryd.prog 23 #[.float .f64 4607182418800017408, .int .i64 (-1000)] w fun e w' => e = .returned (.float .f64 103582791429521408) ∧ w' = w :=
  ldexp_one 23 _ (-1000) w (by decide) (by decide) (by decide) (by decide +kernel)
end Go.Proofs.YtgeebjfbcjhifaaDoor
