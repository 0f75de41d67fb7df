/- Proved here: the walks of package math's cos at this program, an eighth of a turn each. Conditions: as each theorem says. -/
import Derived.Test.YtgeebjfbcjhifaaDoorFlo
namespace Go.Proofs.YtgeebjfbcjhifaaDoor
open Go.ChangeShapes Go.WideShapes Go.ChangeAt Go.RowKit

set_option maxRecDepth 100000 in
set_option maxHeartbeats 4000000 in
theorem cos_at0 (x m a1 a2 a3 a4 a5 z zz b1 b2 q p1 p2 p3 p4 p5 p6 p7 p8 p9 p10 p11 r : Nat) (w : World) (hS : Sincos w) (hx : x < 9223372036854775808) (o1 : (FloatKind.f64.format.order x x != some .eq) = false) (o2 : (FloatKind.f64.format.order x 9218868437227405311 == some .gt) = false) (o3 : FloatKind.f64.format.order x 4737786807993761792 = some .lt)
    (hm : floatBits .mul .f64 x 4608412980311869571 = some m) (hj : floatToIntVal .f64 m .u64 = some 0)
    (h_a1 : floatBits .mul .f64 0 4605249456957292544 = some a1) (h_a2 : floatBits .sub .f64 x a1 = some a2) (h_a3 : floatBits .mul .f64 0 4495793288086814720 = some a3) (h_a4 : floatBits .sub .f64 a2 a3 = some a4) (h_a5 : floatBits .mul .f64 0 4388835458085048688 = some a5) (h_z : floatBits .sub .f64 a4 a5 = some z) (h_zz : floatBits .mul .f64 z z = some zz) (h_b1 : floatBits .mul .f64 4602678819172646912 zz = some b1) (h_b2 : floatBits .sub .f64 4607182418800017408 b1 = some b2) (h_q : floatBits .mul .f64 zz zz = some q) (h_p1 : floatBits .mul .f64 13666448263388469915 zz = some p1) (h_p2 : floatBits .add .f64 p1 4477121864728985349 = some p2) (h_p3 : floatBits .mul .f64 p2 zz = some p3) (h_p4 : floatBits .add .f64 p3 13732177093698800582 = some p4) (h_p5 : floatBits .mul .f64 p4 zz = some p5) (h_p6 : floatBits .add .f64 p5 4537941361668146421 = some p6) (h_p7 : floatBits .mul .f64 p6 zz = some p7) (h_p8 : floatBits .add .f64 p7 13787419979223748497 = some p8) (h_p9 : floatBits .mul .f64 p8 zz = some p9) (h_p10 : floatBits .add .f64 p9 4586165620538955083 = some p10) (h_p11 : floatBits .mul .f64 q p10 = some p11) (h_r : floatBits .add .f64 b2 p11 = some r) :
    Calls Tryd.prog 48 #[.float .f64 x] w fun e w' => e = .returned (.float .f64 r) ∧ w' = w := by
  have C53 := Lib.hid (fun w => isnan_no x w o1)
  have C52 := Lib.hid (fun w => isinf_no x w hx o2)
  have C10 := Lib.hid (fun w => abs_low x w hx)
  have g0 : (FloatKind.f64.format.order x 4737786807993761792 == some .gt) = false := by rw [o3]; rfl
  have g1 : (FloatKind.f64.format.order x 4737786807993761792 == some .eq) = false := by rw [o3]; rfl
  have km := fun w => run_float_arith (P := Tryd.prog) w .mul 34 .f64 _ _ _ hm
  have kj := fun w => run_convert_float_int (P := Tryd.prog) w 34 71 .f64 .u64 m 0 (by kernel_rfl) (by kernel_rfl) hj
  have ki : ∀ w, (convert 71 34 (.int .u64 0)).run Tryd.prog w = .ok (.float .f64 0) w := fun w => by kernel_rfl
  have k_a1 := fun w => run_float_arith (P := Tryd.prog) w .mul 34 .f64 _ _ _ h_a1
  have k_a2 := fun w => run_float_arith (P := Tryd.prog) w .sub 34 .f64 _ _ _ h_a2
  have k_a3 := fun w => run_float_arith (P := Tryd.prog) w .mul 34 .f64 _ _ _ h_a3
  have k_a4 := fun w => run_float_arith (P := Tryd.prog) w .sub 34 .f64 _ _ _ h_a4
  have k_a5 := fun w => run_float_arith (P := Tryd.prog) w .mul 34 .f64 _ _ _ h_a5
  have k_z := fun w => run_float_arith (P := Tryd.prog) w .sub 34 .f64 _ _ _ h_z
  have k_zz := fun w => run_float_arith (P := Tryd.prog) w .mul 34 .f64 _ _ _ h_zz
  have k_b1 := fun w => run_float_arith (P := Tryd.prog) w .mul 34 .f64 _ _ _ h_b1
  have k_b2 := fun w => run_float_arith (P := Tryd.prog) w .sub 34 .f64 _ _ _ h_b2
  have k_q := fun w => run_float_arith (P := Tryd.prog) w .mul 34 .f64 _ _ _ h_q
  have k_p1 := fun w => run_float_arith (P := Tryd.prog) w .mul 34 .f64 _ _ _ h_p1
  have k_p2 := fun w => run_float_arith (P := Tryd.prog) w .add 34 .f64 _ _ _ h_p2
  have k_p3 := fun w => run_float_arith (P := Tryd.prog) w .mul 34 .f64 _ _ _ h_p3
  have k_p4 := fun w => run_float_arith (P := Tryd.prog) w .add 34 .f64 _ _ _ h_p4
  have k_p5 := fun w => run_float_arith (P := Tryd.prog) w .mul 34 .f64 _ _ _ h_p5
  have k_p6 := fun w => run_float_arith (P := Tryd.prog) w .add 34 .f64 _ _ _ h_p6
  have k_p7 := fun w => run_float_arith (P := Tryd.prog) w .mul 34 .f64 _ _ _ h_p7
  have k_p8 := fun w => run_float_arith (P := Tryd.prog) w .add 34 .f64 _ _ _ h_p8
  have k_p9 := fun w => run_float_arith (P := Tryd.prog) w .mul 34 .f64 _ _ _ h_p9
  have k_p10 := fun w => run_float_arith (P := Tryd.prog) w .add 34 .f64 _ _ _ h_p10
  have k_p11 := fun w => run_float_arith (P := Tryd.prog) w .mul 34 .f64 _ _ _ h_p11
  have k_r := fun w => run_float_arith (P := Tryd.prog) w .add 34 .f64 _ _ _ h_r
  obtain ⟨s0, s1, s2, s3, s4, s5, c0, c1, c2, c3, c4, c5, _⟩ := hS
  clear hm hj o1 o2 o3 h_a1 h_a2 h_a3 h_a4 h_a5 h_z h_zz h_b1 h_b2 h_q h_p1 h_p2 h_p3 h_p4 h_p5 h_p6 h_p7 h_p8 h_p9 h_p10 h_p11 h_r
  clear s0 s1 s2 s3 s4 s5
  skip
  go_enter Tryd.func48, Tryd.ntmps48
  go_wp2_with (first | (go_at_call 53; refine (C53.out _).mono ?_; rintro e w' ⟨rfl, rfl⟩) | (go_at_call 52; refine (C52.out _).mono ?_; rintro e w' ⟨rfl, rfl⟩) | (go_at_call 10; refine (C10.out _).mono ?_; rintro e w' ⟨rfl, rfl⟩))
  go_ret
  exact ⟨rfl, rfl⟩

set_option maxRecDepth 100000 in
set_option maxHeartbeats 4000000 in
theorem cos_at1 (x m a1 a2 a3 a4 a5 z zz q p1 p2 p3 p4 p5 p6 p7 p8 p9 p10 p11 r : Nat) (w : World) (hS : Sincos w) (hx : x < 9223372036854775808) (o1 : (FloatKind.f64.format.order x x != some .eq) = false) (o2 : (FloatKind.f64.format.order x 9218868437227405311 == some .gt) = false) (o3 : FloatKind.f64.format.order x 4737786807993761792 = some .lt)
    (hm : floatBits .mul .f64 x 4608412980311869571 = some m) (hj : floatToIntVal .f64 m .u64 = some 1)
    (h_a1 : floatBits .mul .f64 4611686018427387904 4605249456957292544 = some a1) (h_a2 : floatBits .sub .f64 x a1 = some a2) (h_a3 : floatBits .mul .f64 4611686018427387904 4495793288086814720 = some a3) (h_a4 : floatBits .sub .f64 a2 a3 = some a4) (h_a5 : floatBits .mul .f64 4611686018427387904 4388835458085048688 = some a5) (h_z : floatBits .sub .f64 a4 a5 = some z) (h_zz : floatBits .mul .f64 z z = some zz) (h_q : floatBits .mul .f64 z zz = some q) (h_p1 : floatBits .mul .f64 4460209587652500685 zz = some p1) (h_p2 : floatBits .add .f64 p1 13716528389658582877 = some p2) (h_p3 : floatBits .mul .f64 p2 zz = some p3) (h_p4 : floatBits .add .f64 p3 4523617212962785441 = some p4) (h_p5 : floatBits .mul .f64 p4 zz = some p5) (h_p6 : floatBits .add .f64 p5 13774824197404483331 = some p6) (h_p7 : floatBits .mul .f64 p6 zz = some p7) (h_p8 : floatBits .add .f64 p7 4575957461383575504 = some p8) (h_p9 : floatBits .mul .f64 p8 zz = some p9) (h_p10 : floatBits .add .f64 p9 13818544856648471880 = some p10) (h_p11 : floatBits .mul .f64 q p10 = some p11) (h_r : floatBits .add .f64 z p11 = some r) :
    Calls Tryd.prog 48 #[.float .f64 x] w fun e w' => e = .returned (.float .f64 (Op.negFloat .f64 r)) ∧ w' = w := by
  have C53 := Lib.hid (fun w => isnan_no x w o1)
  have C52 := Lib.hid (fun w => isinf_no x w hx o2)
  have C10 := Lib.hid (fun w => abs_low x w hx)
  have g0 : (FloatKind.f64.format.order x 4737786807993761792 == some .gt) = false := by rw [o3]; rfl
  have g1 : (FloatKind.f64.format.order x 4737786807993761792 == some .eq) = false := by rw [o3]; rfl
  have km := fun w => run_float_arith (P := Tryd.prog) w .mul 34 .f64 _ _ _ hm
  have kj := fun w => run_convert_float_int (P := Tryd.prog) w 34 71 .f64 .u64 m 1 (by kernel_rfl) (by kernel_rfl) hj
  have ki : ∀ w, (convert 71 34 (.int .u64 1)).run Tryd.prog w = .ok (.float .f64 4607182418800017408) w := fun w => by kernel_rfl
  have ko := fun w => run_float_arith (P := Tryd.prog) w .add 34 .f64 4607182418800017408 4607182418800017408 4611686018427387904 (by kernel_rfl)
  have k_a1 := fun w => run_float_arith (P := Tryd.prog) w .mul 34 .f64 _ _ _ h_a1
  have k_a2 := fun w => run_float_arith (P := Tryd.prog) w .sub 34 .f64 _ _ _ h_a2
  have k_a3 := fun w => run_float_arith (P := Tryd.prog) w .mul 34 .f64 _ _ _ h_a3
  have k_a4 := fun w => run_float_arith (P := Tryd.prog) w .sub 34 .f64 _ _ _ h_a4
  have k_a5 := fun w => run_float_arith (P := Tryd.prog) w .mul 34 .f64 _ _ _ h_a5
  have k_z := fun w => run_float_arith (P := Tryd.prog) w .sub 34 .f64 _ _ _ h_z
  have k_zz := fun w => run_float_arith (P := Tryd.prog) w .mul 34 .f64 _ _ _ h_zz
  have k_q := fun w => run_float_arith (P := Tryd.prog) w .mul 34 .f64 _ _ _ h_q
  have k_p1 := fun w => run_float_arith (P := Tryd.prog) w .mul 34 .f64 _ _ _ h_p1
  have k_p2 := fun w => run_float_arith (P := Tryd.prog) w .add 34 .f64 _ _ _ h_p2
  have k_p3 := fun w => run_float_arith (P := Tryd.prog) w .mul 34 .f64 _ _ _ h_p3
  have k_p4 := fun w => run_float_arith (P := Tryd.prog) w .add 34 .f64 _ _ _ h_p4
  have k_p5 := fun w => run_float_arith (P := Tryd.prog) w .mul 34 .f64 _ _ _ h_p5
  have k_p6 := fun w => run_float_arith (P := Tryd.prog) w .add 34 .f64 _ _ _ h_p6
  have k_p7 := fun w => run_float_arith (P := Tryd.prog) w .mul 34 .f64 _ _ _ h_p7
  have k_p8 := fun w => run_float_arith (P := Tryd.prog) w .add 34 .f64 _ _ _ h_p8
  have k_p9 := fun w => run_float_arith (P := Tryd.prog) w .mul 34 .f64 _ _ _ h_p9
  have k_p10 := fun w => run_float_arith (P := Tryd.prog) w .add 34 .f64 _ _ _ h_p10
  have k_p11 := fun w => run_float_arith (P := Tryd.prog) w .mul 34 .f64 _ _ _ h_p11
  have k_r := fun w => run_float_arith (P := Tryd.prog) w .add 34 .f64 _ _ _ h_r
  have kn : ∀ w, (Op.unary .neg (.float .f64 r)).run Tryd.prog w = .ok (.float .f64 (Op.negFloat .f64 r)) w := fun _ => rfl
  obtain ⟨s0, s1, s2, s3, s4, s5, c0, c1, c2, c3, c4, c5, _⟩ := hS
  clear hm hj o1 o2 o3 h_a1 h_a2 h_a3 h_a4 h_a5 h_z h_zz h_q h_p1 h_p2 h_p3 h_p4 h_p5 h_p6 h_p7 h_p8 h_p9 h_p10 h_p11 h_r
  clear c0 c1 c2 c3 c4 c5
  generalize Op.negFloat .f64 r = nr at *
  go_enter Tryd.func48, Tryd.ntmps48
  go_wp2_with (first | (go_at_call 53; refine (C53.out _).mono ?_; rintro e w' ⟨rfl, rfl⟩) | (go_at_call 52; refine (C52.out _).mono ?_; rintro e w' ⟨rfl, rfl⟩) | (go_at_call 10; refine (C10.out _).mono ?_; rintro e w' ⟨rfl, rfl⟩))
  go_ret
  exact ⟨rfl, rfl⟩

set_option maxRecDepth 100000 in
set_option maxHeartbeats 4000000 in
theorem cos_at2 (x m a1 a2 a3 a4 a5 z zz q p1 p2 p3 p4 p5 p6 p7 p8 p9 p10 p11 r : Nat) (w : World) (hS : Sincos w) (hx : x < 9223372036854775808) (o1 : (FloatKind.f64.format.order x x != some .eq) = false) (o2 : (FloatKind.f64.format.order x 9218868437227405311 == some .gt) = false) (o3 : FloatKind.f64.format.order x 4737786807993761792 = some .lt)
    (hm : floatBits .mul .f64 x 4608412980311869571 = some m) (hj : floatToIntVal .f64 m .u64 = some 2)
    (h_a1 : floatBits .mul .f64 4611686018427387904 4605249456957292544 = some a1) (h_a2 : floatBits .sub .f64 x a1 = some a2) (h_a3 : floatBits .mul .f64 4611686018427387904 4495793288086814720 = some a3) (h_a4 : floatBits .sub .f64 a2 a3 = some a4) (h_a5 : floatBits .mul .f64 4611686018427387904 4388835458085048688 = some a5) (h_z : floatBits .sub .f64 a4 a5 = some z) (h_zz : floatBits .mul .f64 z z = some zz) (h_q : floatBits .mul .f64 z zz = some q) (h_p1 : floatBits .mul .f64 4460209587652500685 zz = some p1) (h_p2 : floatBits .add .f64 p1 13716528389658582877 = some p2) (h_p3 : floatBits .mul .f64 p2 zz = some p3) (h_p4 : floatBits .add .f64 p3 4523617212962785441 = some p4) (h_p5 : floatBits .mul .f64 p4 zz = some p5) (h_p6 : floatBits .add .f64 p5 13774824197404483331 = some p6) (h_p7 : floatBits .mul .f64 p6 zz = some p7) (h_p8 : floatBits .add .f64 p7 4575957461383575504 = some p8) (h_p9 : floatBits .mul .f64 p8 zz = some p9) (h_p10 : floatBits .add .f64 p9 13818544856648471880 = some p10) (h_p11 : floatBits .mul .f64 q p10 = some p11) (h_r : floatBits .add .f64 z p11 = some r) :
    Calls Tryd.prog 48 #[.float .f64 x] w fun e w' => e = .returned (.float .f64 (Op.negFloat .f64 r)) ∧ w' = w := by
  have C53 := Lib.hid (fun w => isnan_no x w o1)
  have C52 := Lib.hid (fun w => isinf_no x w hx o2)
  have C10 := Lib.hid (fun w => abs_low x w hx)
  have g0 : (FloatKind.f64.format.order x 4737786807993761792 == some .gt) = false := by rw [o3]; rfl
  have g1 : (FloatKind.f64.format.order x 4737786807993761792 == some .eq) = false := by rw [o3]; rfl
  have km := fun w => run_float_arith (P := Tryd.prog) w .mul 34 .f64 _ _ _ hm
  have kj := fun w => run_convert_float_int (P := Tryd.prog) w 34 71 .f64 .u64 m 2 (by kernel_rfl) (by kernel_rfl) hj
  have ki : ∀ w, (convert 71 34 (.int .u64 2)).run Tryd.prog w = .ok (.float .f64 4611686018427387904) w := fun w => by kernel_rfl
  have k_a1 := fun w => run_float_arith (P := Tryd.prog) w .mul 34 .f64 _ _ _ h_a1
  have k_a2 := fun w => run_float_arith (P := Tryd.prog) w .sub 34 .f64 _ _ _ h_a2
  have k_a3 := fun w => run_float_arith (P := Tryd.prog) w .mul 34 .f64 _ _ _ h_a3
  have k_a4 := fun w => run_float_arith (P := Tryd.prog) w .sub 34 .f64 _ _ _ h_a4
  have k_a5 := fun w => run_float_arith (P := Tryd.prog) w .mul 34 .f64 _ _ _ h_a5
  have k_z := fun w => run_float_arith (P := Tryd.prog) w .sub 34 .f64 _ _ _ h_z
  have k_zz := fun w => run_float_arith (P := Tryd.prog) w .mul 34 .f64 _ _ _ h_zz
  have k_q := fun w => run_float_arith (P := Tryd.prog) w .mul 34 .f64 _ _ _ h_q
  have k_p1 := fun w => run_float_arith (P := Tryd.prog) w .mul 34 .f64 _ _ _ h_p1
  have k_p2 := fun w => run_float_arith (P := Tryd.prog) w .add 34 .f64 _ _ _ h_p2
  have k_p3 := fun w => run_float_arith (P := Tryd.prog) w .mul 34 .f64 _ _ _ h_p3
  have k_p4 := fun w => run_float_arith (P := Tryd.prog) w .add 34 .f64 _ _ _ h_p4
  have k_p5 := fun w => run_float_arith (P := Tryd.prog) w .mul 34 .f64 _ _ _ h_p5
  have k_p6 := fun w => run_float_arith (P := Tryd.prog) w .add 34 .f64 _ _ _ h_p6
  have k_p7 := fun w => run_float_arith (P := Tryd.prog) w .mul 34 .f64 _ _ _ h_p7
  have k_p8 := fun w => run_float_arith (P := Tryd.prog) w .add 34 .f64 _ _ _ h_p8
  have k_p9 := fun w => run_float_arith (P := Tryd.prog) w .mul 34 .f64 _ _ _ h_p9
  have k_p10 := fun w => run_float_arith (P := Tryd.prog) w .add 34 .f64 _ _ _ h_p10
  have k_p11 := fun w => run_float_arith (P := Tryd.prog) w .mul 34 .f64 _ _ _ h_p11
  have k_r := fun w => run_float_arith (P := Tryd.prog) w .add 34 .f64 _ _ _ h_r
  have kn : ∀ w, (Op.unary .neg (.float .f64 r)).run Tryd.prog w = .ok (.float .f64 (Op.negFloat .f64 r)) w := fun _ => rfl
  obtain ⟨s0, s1, s2, s3, s4, s5, c0, c1, c2, c3, c4, c5, _⟩ := hS
  clear hm hj o1 o2 o3 h_a1 h_a2 h_a3 h_a4 h_a5 h_z h_zz h_q h_p1 h_p2 h_p3 h_p4 h_p5 h_p6 h_p7 h_p8 h_p9 h_p10 h_p11 h_r
  clear c0 c1 c2 c3 c4 c5
  generalize Op.negFloat .f64 r = nr at *
  go_enter Tryd.func48, Tryd.ntmps48
  go_wp2_with (first | (go_at_call 53; refine (C53.out _).mono ?_; rintro e w' ⟨rfl, rfl⟩) | (go_at_call 52; refine (C52.out _).mono ?_; rintro e w' ⟨rfl, rfl⟩) | (go_at_call 10; refine (C10.out _).mono ?_; rintro e w' ⟨rfl, rfl⟩))
  go_ret
  exact ⟨rfl, rfl⟩

set_option maxRecDepth 100000 in
set_option maxHeartbeats 4000000 in
theorem cos_at3 (x m a1 a2 a3 a4 a5 z zz b1 b2 q p1 p2 p3 p4 p5 p6 p7 p8 p9 p10 p11 r : Nat) (w : World) (hS : Sincos w) (hx : x < 9223372036854775808) (o1 : (FloatKind.f64.format.order x x != some .eq) = false) (o2 : (FloatKind.f64.format.order x 9218868437227405311 == some .gt) = false) (o3 : FloatKind.f64.format.order x 4737786807993761792 = some .lt)
    (hm : floatBits .mul .f64 x 4608412980311869571 = some m) (hj : floatToIntVal .f64 m .u64 = some 3)
    (h_a1 : floatBits .mul .f64 4616189618054758400 4605249456957292544 = some a1) (h_a2 : floatBits .sub .f64 x a1 = some a2) (h_a3 : floatBits .mul .f64 4616189618054758400 4495793288086814720 = some a3) (h_a4 : floatBits .sub .f64 a2 a3 = some a4) (h_a5 : floatBits .mul .f64 4616189618054758400 4388835458085048688 = some a5) (h_z : floatBits .sub .f64 a4 a5 = some z) (h_zz : floatBits .mul .f64 z z = some zz) (h_b1 : floatBits .mul .f64 4602678819172646912 zz = some b1) (h_b2 : floatBits .sub .f64 4607182418800017408 b1 = some b2) (h_q : floatBits .mul .f64 zz zz = some q) (h_p1 : floatBits .mul .f64 13666448263388469915 zz = some p1) (h_p2 : floatBits .add .f64 p1 4477121864728985349 = some p2) (h_p3 : floatBits .mul .f64 p2 zz = some p3) (h_p4 : floatBits .add .f64 p3 13732177093698800582 = some p4) (h_p5 : floatBits .mul .f64 p4 zz = some p5) (h_p6 : floatBits .add .f64 p5 4537941361668146421 = some p6) (h_p7 : floatBits .mul .f64 p6 zz = some p7) (h_p8 : floatBits .add .f64 p7 13787419979223748497 = some p8) (h_p9 : floatBits .mul .f64 p8 zz = some p9) (h_p10 : floatBits .add .f64 p9 4586165620538955083 = some p10) (h_p11 : floatBits .mul .f64 q p10 = some p11) (h_r : floatBits .add .f64 b2 p11 = some r) :
    Calls Tryd.prog 48 #[.float .f64 x] w fun e w' => e = .returned (.float .f64 (Op.negFloat .f64 r)) ∧ w' = w := by
  have C53 := Lib.hid (fun w => isnan_no x w o1)
  have C52 := Lib.hid (fun w => isinf_no x w hx o2)
  have C10 := Lib.hid (fun w => abs_low x w hx)
  have g0 : (FloatKind.f64.format.order x 4737786807993761792 == some .gt) = false := by rw [o3]; rfl
  have g1 : (FloatKind.f64.format.order x 4737786807993761792 == some .eq) = false := by rw [o3]; rfl
  have km := fun w => run_float_arith (P := Tryd.prog) w .mul 34 .f64 _ _ _ hm
  have kj := fun w => run_convert_float_int (P := Tryd.prog) w 34 71 .f64 .u64 m 3 (by kernel_rfl) (by kernel_rfl) hj
  have ki : ∀ w, (convert 71 34 (.int .u64 3)).run Tryd.prog w = .ok (.float .f64 4613937818241073152) w := fun w => by kernel_rfl
  have ko := fun w => run_float_arith (P := Tryd.prog) w .add 34 .f64 4613937818241073152 4607182418800017408 4616189618054758400 (by kernel_rfl)
  have k_a1 := fun w => run_float_arith (P := Tryd.prog) w .mul 34 .f64 _ _ _ h_a1
  have k_a2 := fun w => run_float_arith (P := Tryd.prog) w .sub 34 .f64 _ _ _ h_a2
  have k_a3 := fun w => run_float_arith (P := Tryd.prog) w .mul 34 .f64 _ _ _ h_a3
  have k_a4 := fun w => run_float_arith (P := Tryd.prog) w .sub 34 .f64 _ _ _ h_a4
  have k_a5 := fun w => run_float_arith (P := Tryd.prog) w .mul 34 .f64 _ _ _ h_a5
  have k_z := fun w => run_float_arith (P := Tryd.prog) w .sub 34 .f64 _ _ _ h_z
  have k_zz := fun w => run_float_arith (P := Tryd.prog) w .mul 34 .f64 _ _ _ h_zz
  have k_b1 := fun w => run_float_arith (P := Tryd.prog) w .mul 34 .f64 _ _ _ h_b1
  have k_b2 := fun w => run_float_arith (P := Tryd.prog) w .sub 34 .f64 _ _ _ h_b2
  have k_q := fun w => run_float_arith (P := Tryd.prog) w .mul 34 .f64 _ _ _ h_q
  have k_p1 := fun w => run_float_arith (P := Tryd.prog) w .mul 34 .f64 _ _ _ h_p1
  have k_p2 := fun w => run_float_arith (P := Tryd.prog) w .add 34 .f64 _ _ _ h_p2
  have k_p3 := fun w => run_float_arith (P := Tryd.prog) w .mul 34 .f64 _ _ _ h_p3
  have k_p4 := fun w => run_float_arith (P := Tryd.prog) w .add 34 .f64 _ _ _ h_p4
  have k_p5 := fun w => run_float_arith (P := Tryd.prog) w .mul 34 .f64 _ _ _ h_p5
  have k_p6 := fun w => run_float_arith (P := Tryd.prog) w .add 34 .f64 _ _ _ h_p6
  have k_p7 := fun w => run_float_arith (P := Tryd.prog) w .mul 34 .f64 _ _ _ h_p7
  have k_p8 := fun w => run_float_arith (P := Tryd.prog) w .add 34 .f64 _ _ _ h_p8
  have k_p9 := fun w => run_float_arith (P := Tryd.prog) w .mul 34 .f64 _ _ _ h_p9
  have k_p10 := fun w => run_float_arith (P := Tryd.prog) w .add 34 .f64 _ _ _ h_p10
  have k_p11 := fun w => run_float_arith (P := Tryd.prog) w .mul 34 .f64 _ _ _ h_p11
  have k_r := fun w => run_float_arith (P := Tryd.prog) w .add 34 .f64 _ _ _ h_r
  have kn : ∀ w, (Op.unary .neg (.float .f64 r)).run Tryd.prog w = .ok (.float .f64 (Op.negFloat .f64 r)) w := fun _ => rfl
  obtain ⟨s0, s1, s2, s3, s4, s5, c0, c1, c2, c3, c4, c5, _⟩ := hS
  clear hm hj o1 o2 o3 h_a1 h_a2 h_a3 h_a4 h_a5 h_z h_zz h_b1 h_b2 h_q h_p1 h_p2 h_p3 h_p4 h_p5 h_p6 h_p7 h_p8 h_p9 h_p10 h_p11 h_r
  clear s0 s1 s2 s3 s4 s5
  generalize Op.negFloat .f64 r = nr at *
  go_enter Tryd.func48, Tryd.ntmps48
  go_wp2_with (first | (go_at_call 53; refine (C53.out _).mono ?_; rintro e w' ⟨rfl, rfl⟩) | (go_at_call 52; refine (C52.out _).mono ?_; rintro e w' ⟨rfl, rfl⟩) | (go_at_call 10; refine (C10.out _).mono ?_; rintro e w' ⟨rfl, rfl⟩))
  go_ret
  exact ⟨rfl, rfl⟩

set_option maxRecDepth 100000 in
set_option maxHeartbeats 4000000 in
theorem cos_at4 (x m a1 a2 a3 a4 a5 z zz b1 b2 q p1 p2 p3 p4 p5 p6 p7 p8 p9 p10 p11 r : Nat) (w : World) (hS : Sincos w) (hx : x < 9223372036854775808) (o1 : (FloatKind.f64.format.order x x != some .eq) = false) (o2 : (FloatKind.f64.format.order x 9218868437227405311 == some .gt) = false) (o3 : FloatKind.f64.format.order x 4737786807993761792 = some .lt)
    (hm : floatBits .mul .f64 x 4608412980311869571 = some m) (hj : floatToIntVal .f64 m .u64 = some 4)
    (h_a1 : floatBits .mul .f64 4616189618054758400 4605249456957292544 = some a1) (h_a2 : floatBits .sub .f64 x a1 = some a2) (h_a3 : floatBits .mul .f64 4616189618054758400 4495793288086814720 = some a3) (h_a4 : floatBits .sub .f64 a2 a3 = some a4) (h_a5 : floatBits .mul .f64 4616189618054758400 4388835458085048688 = some a5) (h_z : floatBits .sub .f64 a4 a5 = some z) (h_zz : floatBits .mul .f64 z z = some zz) (h_b1 : floatBits .mul .f64 4602678819172646912 zz = some b1) (h_b2 : floatBits .sub .f64 4607182418800017408 b1 = some b2) (h_q : floatBits .mul .f64 zz zz = some q) (h_p1 : floatBits .mul .f64 13666448263388469915 zz = some p1) (h_p2 : floatBits .add .f64 p1 4477121864728985349 = some p2) (h_p3 : floatBits .mul .f64 p2 zz = some p3) (h_p4 : floatBits .add .f64 p3 13732177093698800582 = some p4) (h_p5 : floatBits .mul .f64 p4 zz = some p5) (h_p6 : floatBits .add .f64 p5 4537941361668146421 = some p6) (h_p7 : floatBits .mul .f64 p6 zz = some p7) (h_p8 : floatBits .add .f64 p7 13787419979223748497 = some p8) (h_p9 : floatBits .mul .f64 p8 zz = some p9) (h_p10 : floatBits .add .f64 p9 4586165620538955083 = some p10) (h_p11 : floatBits .mul .f64 q p10 = some p11) (h_r : floatBits .add .f64 b2 p11 = some r) :
    Calls Tryd.prog 48 #[.float .f64 x] w fun e w' => e = .returned (.float .f64 (Op.negFloat .f64 r)) ∧ w' = w := by
  have C53 := Lib.hid (fun w => isnan_no x w o1)
  have C52 := Lib.hid (fun w => isinf_no x w hx o2)
  have C10 := Lib.hid (fun w => abs_low x w hx)
  have g0 : (FloatKind.f64.format.order x 4737786807993761792 == some .gt) = false := by rw [o3]; rfl
  have g1 : (FloatKind.f64.format.order x 4737786807993761792 == some .eq) = false := by rw [o3]; rfl
  have km := fun w => run_float_arith (P := Tryd.prog) w .mul 34 .f64 _ _ _ hm
  have kj := fun w => run_convert_float_int (P := Tryd.prog) w 34 71 .f64 .u64 m 4 (by kernel_rfl) (by kernel_rfl) hj
  have ki : ∀ w, (convert 71 34 (.int .u64 4)).run Tryd.prog w = .ok (.float .f64 4616189618054758400) w := fun w => by kernel_rfl
  have k_a1 := fun w => run_float_arith (P := Tryd.prog) w .mul 34 .f64 _ _ _ h_a1
  have k_a2 := fun w => run_float_arith (P := Tryd.prog) w .sub 34 .f64 _ _ _ h_a2
  have k_a3 := fun w => run_float_arith (P := Tryd.prog) w .mul 34 .f64 _ _ _ h_a3
  have k_a4 := fun w => run_float_arith (P := Tryd.prog) w .sub 34 .f64 _ _ _ h_a4
  have k_a5 := fun w => run_float_arith (P := Tryd.prog) w .mul 34 .f64 _ _ _ h_a5
  have k_z := fun w => run_float_arith (P := Tryd.prog) w .sub 34 .f64 _ _ _ h_z
  have k_zz := fun w => run_float_arith (P := Tryd.prog) w .mul 34 .f64 _ _ _ h_zz
  have k_b1 := fun w => run_float_arith (P := Tryd.prog) w .mul 34 .f64 _ _ _ h_b1
  have k_b2 := fun w => run_float_arith (P := Tryd.prog) w .sub 34 .f64 _ _ _ h_b2
  have k_q := fun w => run_float_arith (P := Tryd.prog) w .mul 34 .f64 _ _ _ h_q
  have k_p1 := fun w => run_float_arith (P := Tryd.prog) w .mul 34 .f64 _ _ _ h_p1
  have k_p2 := fun w => run_float_arith (P := Tryd.prog) w .add 34 .f64 _ _ _ h_p2
  have k_p3 := fun w => run_float_arith (P := Tryd.prog) w .mul 34 .f64 _ _ _ h_p3
  have k_p4 := fun w => run_float_arith (P := Tryd.prog) w .add 34 .f64 _ _ _ h_p4
  have k_p5 := fun w => run_float_arith (P := Tryd.prog) w .mul 34 .f64 _ _ _ h_p5
  have k_p6 := fun w => run_float_arith (P := Tryd.prog) w .add 34 .f64 _ _ _ h_p6
  have k_p7 := fun w => run_float_arith (P := Tryd.prog) w .mul 34 .f64 _ _ _ h_p7
  have k_p8 := fun w => run_float_arith (P := Tryd.prog) w .add 34 .f64 _ _ _ h_p8
  have k_p9 := fun w => run_float_arith (P := Tryd.prog) w .mul 34 .f64 _ _ _ h_p9
  have k_p10 := fun w => run_float_arith (P := Tryd.prog) w .add 34 .f64 _ _ _ h_p10
  have k_p11 := fun w => run_float_arith (P := Tryd.prog) w .mul 34 .f64 _ _ _ h_p11
  have k_r := fun w => run_float_arith (P := Tryd.prog) w .add 34 .f64 _ _ _ h_r
  have kn : ∀ w, (Op.unary .neg (.float .f64 r)).run Tryd.prog w = .ok (.float .f64 (Op.negFloat .f64 r)) w := fun _ => rfl
  obtain ⟨s0, s1, s2, s3, s4, s5, c0, c1, c2, c3, c4, c5, _⟩ := hS
  clear hm hj o1 o2 o3 h_a1 h_a2 h_a3 h_a4 h_a5 h_z h_zz h_b1 h_b2 h_q h_p1 h_p2 h_p3 h_p4 h_p5 h_p6 h_p7 h_p8 h_p9 h_p10 h_p11 h_r
  clear s0 s1 s2 s3 s4 s5
  generalize Op.negFloat .f64 r = nr at *
  go_enter Tryd.func48, Tryd.ntmps48
  go_wp2_with (first | (go_at_call 53; refine (C53.out _).mono ?_; rintro e w' ⟨rfl, rfl⟩) | (go_at_call 52; refine (C52.out _).mono ?_; rintro e w' ⟨rfl, rfl⟩) | (go_at_call 10; refine (C10.out _).mono ?_; rintro e w' ⟨rfl, rfl⟩))
  go_ret
  exact ⟨rfl, rfl⟩

set_option maxRecDepth 100000 in
set_option maxHeartbeats 4000000 in
theorem cos_at5 (x m a1 a2 a3 a4 a5 z zz q p1 p2 p3 p4 p5 p6 p7 p8 p9 p10 p11 r : Nat) (w : World) (hS : Sincos w) (hx : x < 9223372036854775808) (o1 : (FloatKind.f64.format.order x x != some .eq) = false) (o2 : (FloatKind.f64.format.order x 9218868437227405311 == some .gt) = false) (o3 : FloatKind.f64.format.order x 4737786807993761792 = some .lt)
    (hm : floatBits .mul .f64 x 4608412980311869571 = some m) (hj : floatToIntVal .f64 m .u64 = some 5)
    (h_a1 : floatBits .mul .f64 4618441417868443648 4605249456957292544 = some a1) (h_a2 : floatBits .sub .f64 x a1 = some a2) (h_a3 : floatBits .mul .f64 4618441417868443648 4495793288086814720 = some a3) (h_a4 : floatBits .sub .f64 a2 a3 = some a4) (h_a5 : floatBits .mul .f64 4618441417868443648 4388835458085048688 = some a5) (h_z : floatBits .sub .f64 a4 a5 = some z) (h_zz : floatBits .mul .f64 z z = some zz) (h_q : floatBits .mul .f64 z zz = some q) (h_p1 : floatBits .mul .f64 4460209587652500685 zz = some p1) (h_p2 : floatBits .add .f64 p1 13716528389658582877 = some p2) (h_p3 : floatBits .mul .f64 p2 zz = some p3) (h_p4 : floatBits .add .f64 p3 4523617212962785441 = some p4) (h_p5 : floatBits .mul .f64 p4 zz = some p5) (h_p6 : floatBits .add .f64 p5 13774824197404483331 = some p6) (h_p7 : floatBits .mul .f64 p6 zz = some p7) (h_p8 : floatBits .add .f64 p7 4575957461383575504 = some p8) (h_p9 : floatBits .mul .f64 p8 zz = some p9) (h_p10 : floatBits .add .f64 p9 13818544856648471880 = some p10) (h_p11 : floatBits .mul .f64 q p10 = some p11) (h_r : floatBits .add .f64 z p11 = some r) :
    Calls Tryd.prog 48 #[.float .f64 x] w fun e w' => e = .returned (.float .f64 r) ∧ w' = w := by
  have C53 := Lib.hid (fun w => isnan_no x w o1)
  have C52 := Lib.hid (fun w => isinf_no x w hx o2)
  have C10 := Lib.hid (fun w => abs_low x w hx)
  have g0 : (FloatKind.f64.format.order x 4737786807993761792 == some .gt) = false := by rw [o3]; rfl
  have g1 : (FloatKind.f64.format.order x 4737786807993761792 == some .eq) = false := by rw [o3]; rfl
  have km := fun w => run_float_arith (P := Tryd.prog) w .mul 34 .f64 _ _ _ hm
  have kj := fun w => run_convert_float_int (P := Tryd.prog) w 34 71 .f64 .u64 m 5 (by kernel_rfl) (by kernel_rfl) hj
  have ki : ∀ w, (convert 71 34 (.int .u64 5)).run Tryd.prog w = .ok (.float .f64 4617315517961601024) w := fun w => by kernel_rfl
  have ko := fun w => run_float_arith (P := Tryd.prog) w .add 34 .f64 4617315517961601024 4607182418800017408 4618441417868443648 (by kernel_rfl)
  have k_a1 := fun w => run_float_arith (P := Tryd.prog) w .mul 34 .f64 _ _ _ h_a1
  have k_a2 := fun w => run_float_arith (P := Tryd.prog) w .sub 34 .f64 _ _ _ h_a2
  have k_a3 := fun w => run_float_arith (P := Tryd.prog) w .mul 34 .f64 _ _ _ h_a3
  have k_a4 := fun w => run_float_arith (P := Tryd.prog) w .sub 34 .f64 _ _ _ h_a4
  have k_a5 := fun w => run_float_arith (P := Tryd.prog) w .mul 34 .f64 _ _ _ h_a5
  have k_z := fun w => run_float_arith (P := Tryd.prog) w .sub 34 .f64 _ _ _ h_z
  have k_zz := fun w => run_float_arith (P := Tryd.prog) w .mul 34 .f64 _ _ _ h_zz
  have k_q := fun w => run_float_arith (P := Tryd.prog) w .mul 34 .f64 _ _ _ h_q
  have k_p1 := fun w => run_float_arith (P := Tryd.prog) w .mul 34 .f64 _ _ _ h_p1
  have k_p2 := fun w => run_float_arith (P := Tryd.prog) w .add 34 .f64 _ _ _ h_p2
  have k_p3 := fun w => run_float_arith (P := Tryd.prog) w .mul 34 .f64 _ _ _ h_p3
  have k_p4 := fun w => run_float_arith (P := Tryd.prog) w .add 34 .f64 _ _ _ h_p4
  have k_p5 := fun w => run_float_arith (P := Tryd.prog) w .mul 34 .f64 _ _ _ h_p5
  have k_p6 := fun w => run_float_arith (P := Tryd.prog) w .add 34 .f64 _ _ _ h_p6
  have k_p7 := fun w => run_float_arith (P := Tryd.prog) w .mul 34 .f64 _ _ _ h_p7
  have k_p8 := fun w => run_float_arith (P := Tryd.prog) w .add 34 .f64 _ _ _ h_p8
  have k_p9 := fun w => run_float_arith (P := Tryd.prog) w .mul 34 .f64 _ _ _ h_p9
  have k_p10 := fun w => run_float_arith (P := Tryd.prog) w .add 34 .f64 _ _ _ h_p10
  have k_p11 := fun w => run_float_arith (P := Tryd.prog) w .mul 34 .f64 _ _ _ h_p11
  have k_r := fun w => run_float_arith (P := Tryd.prog) w .add 34 .f64 _ _ _ h_r
  obtain ⟨s0, s1, s2, s3, s4, s5, c0, c1, c2, c3, c4, c5, _⟩ := hS
  clear hm hj o1 o2 o3 h_a1 h_a2 h_a3 h_a4 h_a5 h_z h_zz h_q h_p1 h_p2 h_p3 h_p4 h_p5 h_p6 h_p7 h_p8 h_p9 h_p10 h_p11 h_r
  clear c0 c1 c2 c3 c4 c5
  skip
  go_enter Tryd.func48, Tryd.ntmps48
  go_wp2_with (first | (go_at_call 53; refine (C53.out _).mono ?_; rintro e w' ⟨rfl, rfl⟩) | (go_at_call 52; refine (C52.out _).mono ?_; rintro e w' ⟨rfl, rfl⟩) | (go_at_call 10; refine (C10.out _).mono ?_; rintro e w' ⟨rfl, rfl⟩))
  go_ret
  exact ⟨rfl, rfl⟩

set_option maxRecDepth 100000 in
set_option maxHeartbeats 4000000 in
theorem cos_at6 (x m a1 a2 a3 a4 a5 z zz q p1 p2 p3 p4 p5 p6 p7 p8 p9 p10 p11 r : Nat) (w : World) (hS : Sincos w) (hx : x < 9223372036854775808) (o1 : (FloatKind.f64.format.order x x != some .eq) = false) (o2 : (FloatKind.f64.format.order x 9218868437227405311 == some .gt) = false) (o3 : FloatKind.f64.format.order x 4737786807993761792 = some .lt)
    (hm : floatBits .mul .f64 x 4608412980311869571 = some m) (hj : floatToIntVal .f64 m .u64 = some 6)
    (h_a1 : floatBits .mul .f64 4618441417868443648 4605249456957292544 = some a1) (h_a2 : floatBits .sub .f64 x a1 = some a2) (h_a3 : floatBits .mul .f64 4618441417868443648 4495793288086814720 = some a3) (h_a4 : floatBits .sub .f64 a2 a3 = some a4) (h_a5 : floatBits .mul .f64 4618441417868443648 4388835458085048688 = some a5) (h_z : floatBits .sub .f64 a4 a5 = some z) (h_zz : floatBits .mul .f64 z z = some zz) (h_q : floatBits .mul .f64 z zz = some q) (h_p1 : floatBits .mul .f64 4460209587652500685 zz = some p1) (h_p2 : floatBits .add .f64 p1 13716528389658582877 = some p2) (h_p3 : floatBits .mul .f64 p2 zz = some p3) (h_p4 : floatBits .add .f64 p3 4523617212962785441 = some p4) (h_p5 : floatBits .mul .f64 p4 zz = some p5) (h_p6 : floatBits .add .f64 p5 13774824197404483331 = some p6) (h_p7 : floatBits .mul .f64 p6 zz = some p7) (h_p8 : floatBits .add .f64 p7 4575957461383575504 = some p8) (h_p9 : floatBits .mul .f64 p8 zz = some p9) (h_p10 : floatBits .add .f64 p9 13818544856648471880 = some p10) (h_p11 : floatBits .mul .f64 q p10 = some p11) (h_r : floatBits .add .f64 z p11 = some r) :
    Calls Tryd.prog 48 #[.float .f64 x] w fun e w' => e = .returned (.float .f64 r) ∧ w' = w := by
  have C53 := Lib.hid (fun w => isnan_no x w o1)
  have C52 := Lib.hid (fun w => isinf_no x w hx o2)
  have C10 := Lib.hid (fun w => abs_low x w hx)
  have g0 : (FloatKind.f64.format.order x 4737786807993761792 == some .gt) = false := by rw [o3]; rfl
  have g1 : (FloatKind.f64.format.order x 4737786807993761792 == some .eq) = false := by rw [o3]; rfl
  have km := fun w => run_float_arith (P := Tryd.prog) w .mul 34 .f64 _ _ _ hm
  have kj := fun w => run_convert_float_int (P := Tryd.prog) w 34 71 .f64 .u64 m 6 (by kernel_rfl) (by kernel_rfl) hj
  have ki : ∀ w, (convert 71 34 (.int .u64 6)).run Tryd.prog w = .ok (.float .f64 4618441417868443648) w := fun w => by kernel_rfl
  have k_a1 := fun w => run_float_arith (P := Tryd.prog) w .mul 34 .f64 _ _ _ h_a1
  have k_a2 := fun w => run_float_arith (P := Tryd.prog) w .sub 34 .f64 _ _ _ h_a2
  have k_a3 := fun w => run_float_arith (P := Tryd.prog) w .mul 34 .f64 _ _ _ h_a3
  have k_a4 := fun w => run_float_arith (P := Tryd.prog) w .sub 34 .f64 _ _ _ h_a4
  have k_a5 := fun w => run_float_arith (P := Tryd.prog) w .mul 34 .f64 _ _ _ h_a5
  have k_z := fun w => run_float_arith (P := Tryd.prog) w .sub 34 .f64 _ _ _ h_z
  have k_zz := fun w => run_float_arith (P := Tryd.prog) w .mul 34 .f64 _ _ _ h_zz
  have k_q := fun w => run_float_arith (P := Tryd.prog) w .mul 34 .f64 _ _ _ h_q
  have k_p1 := fun w => run_float_arith (P := Tryd.prog) w .mul 34 .f64 _ _ _ h_p1
  have k_p2 := fun w => run_float_arith (P := Tryd.prog) w .add 34 .f64 _ _ _ h_p2
  have k_p3 := fun w => run_float_arith (P := Tryd.prog) w .mul 34 .f64 _ _ _ h_p3
  have k_p4 := fun w => run_float_arith (P := Tryd.prog) w .add 34 .f64 _ _ _ h_p4
  have k_p5 := fun w => run_float_arith (P := Tryd.prog) w .mul 34 .f64 _ _ _ h_p5
  have k_p6 := fun w => run_float_arith (P := Tryd.prog) w .add 34 .f64 _ _ _ h_p6
  have k_p7 := fun w => run_float_arith (P := Tryd.prog) w .mul 34 .f64 _ _ _ h_p7
  have k_p8 := fun w => run_float_arith (P := Tryd.prog) w .add 34 .f64 _ _ _ h_p8
  have k_p9 := fun w => run_float_arith (P := Tryd.prog) w .mul 34 .f64 _ _ _ h_p9
  have k_p10 := fun w => run_float_arith (P := Tryd.prog) w .add 34 .f64 _ _ _ h_p10
  have k_p11 := fun w => run_float_arith (P := Tryd.prog) w .mul 34 .f64 _ _ _ h_p11
  have k_r := fun w => run_float_arith (P := Tryd.prog) w .add 34 .f64 _ _ _ h_r
  obtain ⟨s0, s1, s2, s3, s4, s5, c0, c1, c2, c3, c4, c5, _⟩ := hS
  clear hm hj o1 o2 o3 h_a1 h_a2 h_a3 h_a4 h_a5 h_z h_zz h_q h_p1 h_p2 h_p3 h_p4 h_p5 h_p6 h_p7 h_p8 h_p9 h_p10 h_p11 h_r
  clear c0 c1 c2 c3 c4 c5
  skip
  go_enter Tryd.func48, Tryd.ntmps48
  go_wp2_with (first | (go_at_call 53; refine (C53.out _).mono ?_; rintro e w' ⟨rfl, rfl⟩) | (go_at_call 52; refine (C52.out _).mono ?_; rintro e w' ⟨rfl, rfl⟩) | (go_at_call 10; refine (C10.out _).mono ?_; rintro e w' ⟨rfl, rfl⟩))
  go_ret
  exact ⟨rfl, rfl⟩

set_option maxRecDepth 100000 in
set_option maxHeartbeats 4000000 in
theorem cos_at7 (x m a1 a2 a3 a4 a5 z zz b1 b2 q p1 p2 p3 p4 p5 p6 p7 p8 p9 p10 p11 r : Nat) (w : World) (hS : Sincos w) (hx : x < 9223372036854775808) (o1 : (FloatKind.f64.format.order x x != some .eq) = false) (o2 : (FloatKind.f64.format.order x 9218868437227405311 == some .gt) = false) (o3 : FloatKind.f64.format.order x 4737786807993761792 = some .lt)
    (hm : floatBits .mul .f64 x 4608412980311869571 = some m) (hj : floatToIntVal .f64 m .u64 = some 7)
    (h_a1 : floatBits .mul .f64 4620693217682128896 4605249456957292544 = some a1) (h_a2 : floatBits .sub .f64 x a1 = some a2) (h_a3 : floatBits .mul .f64 4620693217682128896 4495793288086814720 = some a3) (h_a4 : floatBits .sub .f64 a2 a3 = some a4) (h_a5 : floatBits .mul .f64 4620693217682128896 4388835458085048688 = some a5) (h_z : floatBits .sub .f64 a4 a5 = some z) (h_zz : floatBits .mul .f64 z z = some zz) (h_b1 : floatBits .mul .f64 4602678819172646912 zz = some b1) (h_b2 : floatBits .sub .f64 4607182418800017408 b1 = some b2) (h_q : floatBits .mul .f64 zz zz = some q) (h_p1 : floatBits .mul .f64 13666448263388469915 zz = some p1) (h_p2 : floatBits .add .f64 p1 4477121864728985349 = some p2) (h_p3 : floatBits .mul .f64 p2 zz = some p3) (h_p4 : floatBits .add .f64 p3 13732177093698800582 = some p4) (h_p5 : floatBits .mul .f64 p4 zz = some p5) (h_p6 : floatBits .add .f64 p5 4537941361668146421 = some p6) (h_p7 : floatBits .mul .f64 p6 zz = some p7) (h_p8 : floatBits .add .f64 p7 13787419979223748497 = some p8) (h_p9 : floatBits .mul .f64 p8 zz = some p9) (h_p10 : floatBits .add .f64 p9 4586165620538955083 = some p10) (h_p11 : floatBits .mul .f64 q p10 = some p11) (h_r : floatBits .add .f64 b2 p11 = some r) :
    Calls Tryd.prog 48 #[.float .f64 x] w fun e w' => e = .returned (.float .f64 r) ∧ w' = w := by
  have C53 := Lib.hid (fun w => isnan_no x w o1)
  have C52 := Lib.hid (fun w => isinf_no x w hx o2)
  have C10 := Lib.hid (fun w => abs_low x w hx)
  have g0 : (FloatKind.f64.format.order x 4737786807993761792 == some .gt) = false := by rw [o3]; rfl
  have g1 : (FloatKind.f64.format.order x 4737786807993761792 == some .eq) = false := by rw [o3]; rfl
  have km := fun w => run_float_arith (P := Tryd.prog) w .mul 34 .f64 _ _ _ hm
  have kj := fun w => run_convert_float_int (P := Tryd.prog) w 34 71 .f64 .u64 m 7 (by kernel_rfl) (by kernel_rfl) hj
  have ki : ∀ w, (convert 71 34 (.int .u64 7)).run Tryd.prog w = .ok (.float .f64 4619567317775286272) w := fun w => by kernel_rfl
  have ko := fun w => run_float_arith (P := Tryd.prog) w .add 34 .f64 4619567317775286272 4607182418800017408 4620693217682128896 (by kernel_rfl)
  have k_a1 := fun w => run_float_arith (P := Tryd.prog) w .mul 34 .f64 _ _ _ h_a1
  have k_a2 := fun w => run_float_arith (P := Tryd.prog) w .sub 34 .f64 _ _ _ h_a2
  have k_a3 := fun w => run_float_arith (P := Tryd.prog) w .mul 34 .f64 _ _ _ h_a3
  have k_a4 := fun w => run_float_arith (P := Tryd.prog) w .sub 34 .f64 _ _ _ h_a4
  have k_a5 := fun w => run_float_arith (P := Tryd.prog) w .mul 34 .f64 _ _ _ h_a5
  have k_z := fun w => run_float_arith (P := Tryd.prog) w .sub 34 .f64 _ _ _ h_z
  have k_zz := fun w => run_float_arith (P := Tryd.prog) w .mul 34 .f64 _ _ _ h_zz
  have k_b1 := fun w => run_float_arith (P := Tryd.prog) w .mul 34 .f64 _ _ _ h_b1
  have k_b2 := fun w => run_float_arith (P := Tryd.prog) w .sub 34 .f64 _ _ _ h_b2
  have k_q := fun w => run_float_arith (P := Tryd.prog) w .mul 34 .f64 _ _ _ h_q
  have k_p1 := fun w => run_float_arith (P := Tryd.prog) w .mul 34 .f64 _ _ _ h_p1
  have k_p2 := fun w => run_float_arith (P := Tryd.prog) w .add 34 .f64 _ _ _ h_p2
  have k_p3 := fun w => run_float_arith (P := Tryd.prog) w .mul 34 .f64 _ _ _ h_p3
  have k_p4 := fun w => run_float_arith (P := Tryd.prog) w .add 34 .f64 _ _ _ h_p4
  have k_p5 := fun w => run_float_arith (P := Tryd.prog) w .mul 34 .f64 _ _ _ h_p5
  have k_p6 := fun w => run_float_arith (P := Tryd.prog) w .add 34 .f64 _ _ _ h_p6
  have k_p7 := fun w => run_float_arith (P := Tryd.prog) w .mul 34 .f64 _ _ _ h_p7
  have k_p8 := fun w => run_float_arith (P := Tryd.prog) w .add 34 .f64 _ _ _ h_p8
  have k_p9 := fun w => run_float_arith (P := Tryd.prog) w .mul 34 .f64 _ _ _ h_p9
  have k_p10 := fun w => run_float_arith (P := Tryd.prog) w .add 34 .f64 _ _ _ h_p10
  have k_p11 := fun w => run_float_arith (P := Tryd.prog) w .mul 34 .f64 _ _ _ h_p11
  have k_r := fun w => run_float_arith (P := Tryd.prog) w .add 34 .f64 _ _ _ h_r
  obtain ⟨s0, s1, s2, s3, s4, s5, c0, c1, c2, c3, c4, c5, _⟩ := hS
  clear hm hj o1 o2 o3 h_a1 h_a2 h_a3 h_a4 h_a5 h_z h_zz h_b1 h_b2 h_q h_p1 h_p2 h_p3 h_p4 h_p5 h_p6 h_p7 h_p8 h_p9 h_p10 h_p11 h_r
  clear s0 s1 s2 s3 s4 s5
  skip
  go_enter Tryd.func48, Tryd.ntmps48
  go_wp2_with (first | (go_at_call 53; refine (C53.out _).mono ?_; rintro e w' ⟨rfl, rfl⟩) | (go_at_call 52; refine (C52.out _).mono ?_; rintro e w' ⟨rfl, rfl⟩) | (go_at_call 10; refine (C10.out _).mono ?_; rintro e w' ⟨rfl, rfl⟩))
  go_ret
  exact ⟨rfl, rfl⟩

set_option maxRecDepth 100000 in
set_option maxHeartbeats 4000000 in
theorem cos_at8 (x m a1 a2 a3 a4 a5 z zz b1 b2 q p1 p2 p3 p4 p5 p6 p7 p8 p9 p10 p11 r : Nat) (w : World) (hS : Sincos w) (hx : x < 9223372036854775808) (o1 : (FloatKind.f64.format.order x x != some .eq) = false) (o2 : (FloatKind.f64.format.order x 9218868437227405311 == some .gt) = false) (o3 : FloatKind.f64.format.order x 4737786807993761792 = some .lt)
    (hm : floatBits .mul .f64 x 4608412980311869571 = some m) (hj : floatToIntVal .f64 m .u64 = some 8)
    (h_a1 : floatBits .mul .f64 4620693217682128896 4605249456957292544 = some a1) (h_a2 : floatBits .sub .f64 x a1 = some a2) (h_a3 : floatBits .mul .f64 4620693217682128896 4495793288086814720 = some a3) (h_a4 : floatBits .sub .f64 a2 a3 = some a4) (h_a5 : floatBits .mul .f64 4620693217682128896 4388835458085048688 = some a5) (h_z : floatBits .sub .f64 a4 a5 = some z) (h_zz : floatBits .mul .f64 z z = some zz) (h_b1 : floatBits .mul .f64 4602678819172646912 zz = some b1) (h_b2 : floatBits .sub .f64 4607182418800017408 b1 = some b2) (h_q : floatBits .mul .f64 zz zz = some q) (h_p1 : floatBits .mul .f64 13666448263388469915 zz = some p1) (h_p2 : floatBits .add .f64 p1 4477121864728985349 = some p2) (h_p3 : floatBits .mul .f64 p2 zz = some p3) (h_p4 : floatBits .add .f64 p3 13732177093698800582 = some p4) (h_p5 : floatBits .mul .f64 p4 zz = some p5) (h_p6 : floatBits .add .f64 p5 4537941361668146421 = some p6) (h_p7 : floatBits .mul .f64 p6 zz = some p7) (h_p8 : floatBits .add .f64 p7 13787419979223748497 = some p8) (h_p9 : floatBits .mul .f64 p8 zz = some p9) (h_p10 : floatBits .add .f64 p9 4586165620538955083 = some p10) (h_p11 : floatBits .mul .f64 q p10 = some p11) (h_r : floatBits .add .f64 b2 p11 = some r) :
    Calls Tryd.prog 48 #[.float .f64 x] w fun e w' => e = .returned (.float .f64 r) ∧ w' = w := by
  have C53 := Lib.hid (fun w => isnan_no x w o1)
  have C52 := Lib.hid (fun w => isinf_no x w hx o2)
  have C10 := Lib.hid (fun w => abs_low x w hx)
  have g0 : (FloatKind.f64.format.order x 4737786807993761792 == some .gt) = false := by rw [o3]; rfl
  have g1 : (FloatKind.f64.format.order x 4737786807993761792 == some .eq) = false := by rw [o3]; rfl
  have km := fun w => run_float_arith (P := Tryd.prog) w .mul 34 .f64 _ _ _ hm
  have kj := fun w => run_convert_float_int (P := Tryd.prog) w 34 71 .f64 .u64 m 8 (by kernel_rfl) (by kernel_rfl) hj
  have ki : ∀ w, (convert 71 34 (.int .u64 8)).run Tryd.prog w = .ok (.float .f64 4620693217682128896) w := fun w => by kernel_rfl
  have k_a1 := fun w => run_float_arith (P := Tryd.prog) w .mul 34 .f64 _ _ _ h_a1
  have k_a2 := fun w => run_float_arith (P := Tryd.prog) w .sub 34 .f64 _ _ _ h_a2
  have k_a3 := fun w => run_float_arith (P := Tryd.prog) w .mul 34 .f64 _ _ _ h_a3
  have k_a4 := fun w => run_float_arith (P := Tryd.prog) w .sub 34 .f64 _ _ _ h_a4
  have k_a5 := fun w => run_float_arith (P := Tryd.prog) w .mul 34 .f64 _ _ _ h_a5
  have k_z := fun w => run_float_arith (P := Tryd.prog) w .sub 34 .f64 _ _ _ h_z
  have k_zz := fun w => run_float_arith (P := Tryd.prog) w .mul 34 .f64 _ _ _ h_zz
  have k_b1 := fun w => run_float_arith (P := Tryd.prog) w .mul 34 .f64 _ _ _ h_b1
  have k_b2 := fun w => run_float_arith (P := Tryd.prog) w .sub 34 .f64 _ _ _ h_b2
  have k_q := fun w => run_float_arith (P := Tryd.prog) w .mul 34 .f64 _ _ _ h_q
  have k_p1 := fun w => run_float_arith (P := Tryd.prog) w .mul 34 .f64 _ _ _ h_p1
  have k_p2 := fun w => run_float_arith (P := Tryd.prog) w .add 34 .f64 _ _ _ h_p2
  have k_p3 := fun w => run_float_arith (P := Tryd.prog) w .mul 34 .f64 _ _ _ h_p3
  have k_p4 := fun w => run_float_arith (P := Tryd.prog) w .add 34 .f64 _ _ _ h_p4
  have k_p5 := fun w => run_float_arith (P := Tryd.prog) w .mul 34 .f64 _ _ _ h_p5
  have k_p6 := fun w => run_float_arith (P := Tryd.prog) w .add 34 .f64 _ _ _ h_p6
  have k_p7 := fun w => run_float_arith (P := Tryd.prog) w .mul 34 .f64 _ _ _ h_p7
  have k_p8 := fun w => run_float_arith (P := Tryd.prog) w .add 34 .f64 _ _ _ h_p8
  have k_p9 := fun w => run_float_arith (P := Tryd.prog) w .mul 34 .f64 _ _ _ h_p9
  have k_p10 := fun w => run_float_arith (P := Tryd.prog) w .add 34 .f64 _ _ _ h_p10
  have k_p11 := fun w => run_float_arith (P := Tryd.prog) w .mul 34 .f64 _ _ _ h_p11
  have k_r := fun w => run_float_arith (P := Tryd.prog) w .add 34 .f64 _ _ _ h_r
  obtain ⟨s0, s1, s2, s3, s4, s5, c0, c1, c2, c3, c4, c5, _⟩ := hS
  clear hm hj o1 o2 o3 h_a1 h_a2 h_a3 h_a4 h_a5 h_z h_zz h_b1 h_b2 h_q h_p1 h_p2 h_p3 h_p4 h_p5 h_p6 h_p7 h_p8 h_p9 h_p10 h_p11 h_r
  clear s0 s1 s2 s3 s4 s5
  skip
  go_enter Tryd.func48, Tryd.ntmps48
  go_wp2_with (first | (go_at_call 53; refine (C53.out _).mono ?_; rintro e w' ⟨rfl, rfl⟩) | (go_at_call 52; refine (C52.out _).mono ?_; rintro e w' ⟨rfl, rfl⟩) | (go_at_call 10; refine (C10.out _).mono ?_; rintro e w' ⟨rfl, rfl⟩))
  go_ret
  exact ⟨rfl, rfl⟩
end Go.Proofs.YtgeebjfbcjhifaaDoor
