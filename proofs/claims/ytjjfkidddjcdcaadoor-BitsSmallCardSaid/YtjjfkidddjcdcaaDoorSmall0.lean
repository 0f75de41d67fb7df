/- Proved here: the contract of the document's Small at this program, of 0 and of the infinities. Conditions: as each theorem says. -/
import Derived.Test.YtjjfkidddjcdcaaDoorNear
import Derived.Test.YtjjfkidddjcdcaaDoorPack
import Derived.Test.YtjjfkidddjcdcaaDoorOdd
import Derived.Deep.CutRange
namespace Go.Proofs.YtjjfkidddjcdcaaDoor
open Go.ChangeShapes Go.WideShapes Go.ChangeAt Go.RowKit

/-- The sign and what is left of a float, as Small parts them. -/
theorem sign_parts (b : Nat) (hb : b < 18446744073709551616) : (sgn b = false → b = PL.rung b) ∧ (sgn b = true → flip b = PL.rung b) := by
  unfold sgn flip PL.rung
  refine ⟨fun h => ?_, fun h => ?_⟩
  · have := of_decide_eq_false h; omega
  · have := of_decide_eq_true h; rw [if_neg (by omega)]; omega
def signW (E F b : Nat) : Nat := if sgn b then 2 ^ (E + F) else 0
theorem signW_or (E F b v : Nat) (hE : E ≤ 8) (hF : F ≤ 23) (hv : v < 2 ^ (E + F)) : bits .or .u64 (signW E F b : Int) (v : Int) = ((signW E F b + v : Nat) : Int) := by
  have hp : 2 ^ (E + F) ≤ 2 ^ 31 := PL.pow_bound _ _ (by omega)
  unfold signW
  cases sgn b
  · rw [if_neg (by simp), Nat.zero_add, u64_or_nat _ _ (by omega) (by omega), Nat.zero_or]
  · rw [if_pos rfl, u64_or_nat _ _ (by omega) (by omega), nat_join (E + F) _ _ (Nat.mod_self _) hv]
theorem signW_true (E F b : Nat) (h : sgn b = true) (hE : E ≤ 8) (hF : F ≤ 23) : IntKind.u64.wrap (2 ^ (E + F)) = ((signW E F b : Nat) : Int) := by
  unfold signW
  rw [if_pos h]
  exact wrap_pow (E + F) (by omega)
theorem signW_false (E F b : Nat) (h : sgn b = false) : signW E F b = 0 := by
  unfold signW
  rw [if_neg (by rw [h]; simp)]
theorem inf_lt_fmt (E F : Nat) : (2 ^ E - 1) * 2 ^ F < 2 ^ (E + F) := by
  rw [Nat.pow_add]
  exact Nat.mul_lt_mul_of_pos_right (by have := Nat.two_pow_pos E; omega) (Nat.two_pow_pos _)

set_option maxRecDepth 100000 in
set_option maxHeartbeats 1000000 in
theorem small_zero (b E F : Nat) (w : World) (hb : b < 18446744073709551616) (h0 : PL.rung b = 0) (hE1 : 2 ≤ E) (hE2 : E ≤ 8) (hF1 : 1 ≤ F) (hF2 : F ≤ 23) :
    Calls Tryd.prog 27 #[.float .f64 b, .agg #[.int .i64 E, .int .i64 F]] w fun e w' => Below w.heap.size w w' ∧ e = .returned (.int .u64 (signW E F b : Nat)) := by
  obtain ⟨p1, p2⟩ := sign_parts b hb
  have r1 := run_neg b hb
  have t1 := fun h => signW_true E F b h hE2 hF2
  have t2 := signW_false E F b
  have C16 := Lib.hid (fun w => signbit_any b hb w)
  rw [h0] at p1 p2
  have hz : (FloatKind.f64.format.order 0 0 == some .eq) = true := by decide
  have hI := PL.word_inf E F hE1 (by omega) (by omega)
  have b0 : Below w.heap.size w (w.alloc (Obj.cells #[Value.int IntKind.i64 (E : Int), Value.int IntKind.i64 (F : Int)] 51)) := (Below.refl _ _).alloc (Nat.le_refl _) _
  generalize signW E F b = SG at *
  have T1 := Lib.hid t1
  have T2 := Lib.hid t2
  have P1 := Lib.hid p1
  have P2 := Lib.hid p2
  have HI := Lib.hid hI
  clear t1 t2 p1 p2 hI h0
  obtain ⟨s, hs⟩ : ∃ s, sgn b = s := ⟨_, rfl⟩
  rw [hs] at C16 T1 T2 P1 P2
  clear hs
  go_enter Tryd.func27, Tryd.ntmps27
  go_wp2_with fail
  refine (C16.out _).mono ?_
  rintro e wa ⟨rfl, rfl⟩
  go_upto_if 14 with fail
  go_cut [0, 5] from 13 to 22 (fun s0 s5 wx => s0 = .float .f64 0 ∧ s5 = .int .u64 SG ∧ (w.alloc (Obj.cells #[Value.int IntKind.i64 (E : Int), Value.int IntKind.i64 (F : Int)] 51)) = wx)
  case first =>
    cases s
    · have e1 := P1.out rfl
      have e2 := T2.out rfl
      subst e1 e2
      go_wp2_with fail
      go_meet
      exact ⟨rfl, rfl, rfl⟩
    · have e1 := P2.out rfl
      have e2 := T1.out rfl
      rw [e1] at r1
      go_wp2_with fail
      go_meet
      exact ⟨rfl, rfl, rfl⟩
  case rest =>
  obtain ⟨rfl, rfl, rfl⟩ := hcut
  clear r1
  have hI := HI.out
  go_wp2_with fail
  go_quiet (fail)
  go_wp2_with fail
  go_ret
  exact ⟨below_drewN b0 nq, rfl⟩

set_option maxRecDepth 100000 in
set_option maxHeartbeats 1000000 in
theorem small_inf (b E F : Nat) (w : World) (hb : b < 18446744073709551616) (h0 : PL.rung b = 9218868437227405312) (hE1 : 2 ≤ E) (hE2 : E ≤ 8) (hF1 : 1 ≤ F) (hF2 : F ≤ 23) :
    Calls Tryd.prog 27 #[.float .f64 b, .agg #[.int .i64 E, .int .i64 F]] w fun e w' => Below w.heap.size w w' ∧ e = .returned (.int .u64 (signW E F b + (2 ^ E - 1) * 2 ^ F : Nat)) := by
  obtain ⟨p1, p2⟩ := sign_parts b hb
  have r1 := run_neg b hb
  have t1 := fun h => signW_true E F b h hE2 hF2
  have t2 := signW_false E F b
  have ho := signW_or E F b ((2 ^ E - 1) * 2 ^ F) hE2 hF2 (inf_lt_fmt E F)
  have C16 := Lib.hid (fun w => signbit_any b hb w)
  rw [h0] at p1 p2
  obtain ⟨r, hr⟩ : ∃ r, r = 9218868437227405312 := ⟨_, rfl⟩
  have hrb : r < 18446744073709551616 := by omega
  have hrr : PL.rung r = r := by unfold PL.rung; omega
  have hz := eq_zero r hrb
  rw [hrr, decide_eq_false (show ¬ r = 0 by omega)] at hz
  have C61 := Lib.hid (fun w => isinf_any r hrb w)
  rw [show infB r = true from decide_eq_true (by rw [hrr]; omega)] at C61
  rw [← hr] at p1 p2
  have hI := PL.word_inf E F hE1 (by omega) (by omega)
  have b0 : Below w.heap.size w (w.alloc (Obj.cells #[Value.int IntKind.i64 (E : Int), Value.int IntKind.i64 (F : Int)] 51)) := (Below.refl _ _).alloc (Nat.le_refl _) _
  generalize (2 ^ E - 1) * 2 ^ F = Inf at *
  generalize signW E F b = SG at *
  have T1 := Lib.hid t1
  have T2 := Lib.hid t2
  have P1 := Lib.hid p1
  have P2 := Lib.hid p2
  have HI := Lib.hid hI
  have HO := Lib.hid ho
  clear t1 t2 p1 p2 hI h0 ho hr hrr
  obtain ⟨s, hs⟩ : ∃ s, sgn b = s := ⟨_, rfl⟩
  rw [hs] at C16 T1 T2 P1 P2
  clear hs
  go_enter Tryd.func27, Tryd.ntmps27
  go_wp2_with fail
  refine (C16.out _).mono ?_
  rintro e wa ⟨rfl, rfl⟩
  go_upto_if 14 with fail
  go_cut [0, 5] from 13 to 22 (fun s0 s5 wx => s0 = .float .f64 r ∧ s5 = .int .u64 SG ∧ (w.alloc (Obj.cells #[Value.int IntKind.i64 (E : Int), Value.int IntKind.i64 (F : Int)] 51)) = wx)
  case first =>
    cases s
    · have e1 := P1.out rfl
      have e2 := T2.out rfl
      subst e1 e2
      go_wp2_with fail
      go_meet
      exact ⟨rfl, rfl, rfl⟩
    · have e1 := P2.out rfl
      have e2 := T1.out rfl
      rw [e1] at r1
      go_wp2_with fail
      go_meet
      exact ⟨rfl, rfl, rfl⟩
  case rest =>
  obtain ⟨rfl, rfl, rfl⟩ := hcut
  clear r1
  have hI := HI.out
  have ho := HO.out
  go_wp2_with fail
  go_quiet (fail)
  go_wp2_with fail
  refine (C61.out _).mono ?_
  rintro e wb ⟨rfl, rfl⟩
  go_wp2_with fail
  go_ret
  exact ⟨below_drewN b0 nq, rfl⟩
end Go.Proofs.YtjjfkidddjcdcaaDoor
