/- Proved here: the contract of the program's Unpack at this program. Conditions: as each theorem says. -/
import Derived.Test.YtjjfkidddjcdcaaDoorPack
import Derived.Test.YtjjfkidddjcdcaaDoorLaid
import Derived.Test.YtjjfkidddjcdcaaDoorLdexp
namespace Go.Proofs.YtjjfkidddjcdcaaDoor
open Go.ChangeShapes Go.WideShapes Go.ChangeAt Go.RowKit

theorem i64_or (a c : Nat) (ha : a < 9223372036854775808) (hc : c < 9223372036854775808) : bits .or .i64 (a : Int) (c : Int) = ((a ||| c : Nat) : Int) := by
  have hx : a ||| c < 2 ^ 63 := Nat.or_lt_two_pow (by omega) (by omega)
  show IntKind.i64.wrap ((BitVec.ofInt 64 (a : Int) ||| BitVec.ofInt 64 (c : Int)).toNat : Int) = _
  rw [BitVec.toNat_or, ofInt_i64 a ha, ofInt_i64 c hc, IntKind.wrap_i64]
  omega

/-- The fields of a small format's bits. -/
def fracP (F b : Nat) : Nat := b % 2 ^ F
def expP (E F b : Nat) : Nat := b / 2 ^ F % 2 ^ E
/-- The float of a small format's bits, without the sign. -/
def bodyP (E F b : Nat) : Nat :=
  if expP E F b = 2 ^ E - 1 then 9218868437227405312
  else if 0 < expP E F b then PL.rungOf Ieee.double (2 ^ F + fracP F b) ((expP E F b : Int) - PL.biasOf E - F)
  else PL.rungOf Ieee.double (fracP F b) (1 - (PL.biasOf E : Int) - F)
def negP (E F b : Nat) : Bool := decide (b / 2 ^ (E + F) = 1)

theorem unpack_bad (b : Nat) (E F : Int) (w : World) (h : rightB E F = false) :
    Calls Tryd.prog 26 #[.int .u64 b, .agg #[.int .i64 E, .int .i64 F]] w fun e w' => Below w.heap.size w w' ∧ e = .returned (.tuple #[.float .f64 0, .int .i64 6]) := by
  have C := Lib.hid (fun w => right_fmt E F w)
  rw [h] at C
  clear h
  have b0 : Below w.heap.size w (w.alloc (Obj.cells #[Value.int IntKind.i64 E, Value.int IntKind.i64 F] 51)) := (Below.refl _ _).alloc (Nat.le_refl _) _
  go_enter Tryd.func26, Tryd.ntmps26
  go_wp2_with fail
  refine (C.out _).mono ?_
  rintro e w1 ⟨hb, rfl⟩
  go_wp2_with fail
  go_ret2
  exact ⟨b0.trans (hb.mono b0.size), rfl⟩

set_option maxRecDepth 100000 in
set_option maxHeartbeats 1000000 in
theorem unpack_range (b E F : Nat) (w : World) (hr : b / 2 ^ (1 + E + F) ≠ 0) (hE1 : 2 ≤ E) (hE2 : E ≤ 8) (hF1 : 1 ≤ F) (hF2 : F ≤ 23) :
    Calls Tryd.prog 26 #[.int .u64 b, .agg #[.int .i64 E, .int .i64 F]] w fun e w' => Below w.heap.size w w' ∧ e = .returned (.tuple #[.float .f64 0, .int .i64 3]) := by
  have C := Lib.hid (fun w => right_fmt (E : Int) (F : Int) w)
  rw [show rightB (E : Int) (F : Int) = true from decide_eq_true ⟨by omega, by omega, by omega, by omega⟩] at C
  have hq : (((b : Int) / 2 ^ (1 + E + F)) != 0) = true := by
    rw [pow_cast, ← Int.natCast_ediv]
    simp only [bne_iff_ne, ne_eq]
    omega
  clear hr
  have b0 : Below w.heap.size w (w.alloc (Obj.cells #[Value.int IntKind.i64 (E : Int), Value.int IntKind.i64 (F : Int)] 51)) := (Below.refl _ _).alloc (Nat.le_refl _) _
  go_enter Tryd.func26, Tryd.ntmps26
  go_wp2_with fail
  refine (C.out _).mono ?_
  rintro e w1 ⟨hb1, rfl⟩
  have b1 := b0.trans (hb1.mono b0.size)
  have q0 : w1.cell? ⟨w.heap.size, 0, none⟩ = some (.int .i64 E) := (hb1.cell (p := ⟨w.heap.size, 0, none⟩) (by simp)).trans (by simp [go_sem])
  have q1 : w1.cell? ⟨w.heap.size, 1, none⟩ = some (.int .i64 F) := (hb1.cell (p := ⟨w.heap.size, 1, none⟩) (by simp)).trans (by simp [go_sem])
  go_wp2_with fail
  go_ret2
  exact ⟨b1, rfl⟩

set_option maxRecDepth 100000 in
set_option maxHeartbeats 1000000 in
theorem unpack_nan (b E F : Nat) (w : World) (hb : b < 18446744073709551616) (hr : b / 2 ^ (1 + E + F) = 0) (hE1 : 2 ≤ E) (hE2 : E ≤ 8) (hF1 : 1 ≤ F) (hF2 : F ≤ 23) (hx : expP E F b = 2 ^ E - 1) (hf : 0 < fracP F b) :
    Calls Tryd.prog 26 #[.int .u64 b, .agg #[.int .i64 E, .int .i64 F]] w fun e w' => Below w.heap.size w w' ∧ e = .returned (.tuple #[.float .f64 9221120237041090561, .int .i64 0]) := by
  have C := Lib.hid (fun w => right_fmt (E : Int) (F : Int) w)
  rw [show rightB (E : Int) (F : Int) = true from decide_eq_true ⟨by omega, by omega, by omega, by omega⟩] at C
  have hq : (((b : Int) / 2 ^ (1 + E + F)) != 0) = false := by
    rw [pow_cast, ← Int.natCast_ediv]
    simp only [bne_eq_false_iff_eq]
    omega
  have am1 : bits .and .u64 (b : Int) (IntKind.u64.wrap (IntKind.u64.wrap (2 ^ F) - 1)) = ((fracP F b : Nat) : Int) := and_mask b F hb (by omega)
  have hb2 : b / 2 ^ F < 18446744073709551616 := Nat.lt_of_le_of_lt (Nat.div_le_self _ _) hb
  have am2 : bits .and .u64 ((b : Int) / 2 ^ F) (IntKind.u64.wrap (IntKind.u64.wrap (2 ^ E) - 1)) = ((expP E F b : Nat) : Int) := by
    rw [pow_cast F, ← Int.natCast_ediv]
    exact and_mask (b / 2 ^ F) E hb2 (by omega)
  have hs : (((b : Int) / 2 ^ (E + F)) == 1) = negP E F b := by
    unfold negP
    rw [pow_cast, ← Int.natCast_ediv, Bool.eq_iff_iff]
    simp only [beq_iff_eq, decide_eq_true_eq]
    omega
  have hB : wrap64 (wrap64 (2 ^ (E - 1)) - 1) = (PL.biasOf E : Int) := PL.wrap64_pow (E - 1) (by omega)
  have hT := PL.wrap64_pow E (by omega)
  have hBb : PL.biasOf E ≤ 127 ∧ 1 ≤ PL.biasOf E := by
    have p1 : 2 ^ (E - 1) ≤ 2 ^ 7 := PL.pow_bound _ _ (by omega)
    have p2 : 2 ^ 1 ≤ 2 ^ (E - 1) := PL.pow_bound _ _ (by omega)
    unfold PL.biasOf
    omega
  have hF8 : 2 ^ F ≤ 2 ^ 23 := PL.pow_bound _ _ hF2
  have hfr : fracP F b < 2 ^ F := Nat.mod_lt _ (Nat.two_pow_pos F)
  have hE8 : 2 ^ E ≤ 2 ^ 8 := PL.pow_bound _ _ hE2
  have hE4 : 2 ^ 2 ≤ 2 ^ E := PL.pow_bound _ _ hE1
  have hex : expP E F b < 2 ^ E := Nat.mod_lt _ (Nat.two_pow_pos E)
  have hfb : fracP F b < 8388608 := Nat.lt_of_lt_of_le hfr hF8
  have hxb : expP E F b < 256 := Nat.lt_of_lt_of_le hex hE8
  have b0 : Below w.heap.size w (w.alloc (Obj.cells #[Value.int IntKind.i64 (E : Int), Value.int IntKind.i64 (F : Int)] 51)) := (Below.refl _ _).alloc (Nat.le_refl _) _
  have HT := Lib.hid hx
  rw [← hx] at hT
  clear hr hb hs hex hE4 hE8 hx hBb hB hF8 hfr hb2
  generalize fracP F b = f at *
  generalize expP E F b = x at *
  have hfz : (0 : Int) < f := by omega
  go_enter Tryd.func26, Tryd.ntmps26
  go_wp2_with fail
  refine (C.out _).mono ?_
  rintro e w1 ⟨hb1, rfl⟩
  have b1 := b0.trans (hb1.mono b0.size)
  have q0 : w1.cell? ⟨w.heap.size, 0, none⟩ = some (.int .i64 E) := (hb1.cell (p := ⟨w.heap.size, 0, none⟩) (by simp)).trans (by simp [go_sem])
  have q1 : w1.cell? ⟨w.heap.size, 1, none⟩ = some (.int .i64 F) := (hb1.cell (p := ⟨w.heap.size, 1, none⟩) (by simp)).trans (by simp [go_sem])
  go_wp2_with fail
  go_quiet (fail)
  go_wp2_with fail
  refine (nan_any _).mono ?_
  rintro e w2 ⟨rfl, rfl⟩
  go_wp2_with fail
  go_ret2
  exact ⟨below_drewN b1 nq, rfl⟩

set_option maxRecDepth 100000 in
set_option maxHeartbeats 1000000 in
theorem unpack_inf (b E F : Nat) (w : World) (hb : b < 18446744073709551616) (hr : b / 2 ^ (1 + E + F) = 0) (hE1 : 2 ≤ E) (hE2 : E ≤ 8) (hF1 : 1 ≤ F) (hF2 : F ≤ 23) (hx : expP E F b = 2 ^ E - 1) (hf : fracP F b = 0) :
    Calls Tryd.prog 26 #[.int .u64 b, .agg #[.int .i64 E, .int .i64 F]] w fun e w' => Below w.heap.size w w' ∧ e = .returned (.tuple #[.float .f64 ((if negP E F b then 9223372036854775808 else 0) + 9218868437227405312), .int .i64 0]) := by
  have C := Lib.hid (fun w => right_fmt (E : Int) (F : Int) w)
  rw [show rightB (E : Int) (F : Int) = true from decide_eq_true ⟨by omega, by omega, by omega, by omega⟩] at C
  have hq : (((b : Int) / 2 ^ (1 + E + F)) != 0) = false := by
    rw [pow_cast, ← Int.natCast_ediv]
    simp only [bne_eq_false_iff_eq]
    omega
  have am1 : bits .and .u64 (b : Int) (IntKind.u64.wrap (IntKind.u64.wrap (2 ^ F) - 1)) = ((fracP F b : Nat) : Int) := and_mask b F hb (by omega)
  have hb2 : b / 2 ^ F < 18446744073709551616 := Nat.lt_of_le_of_lt (Nat.div_le_self _ _) hb
  have am2 : bits .and .u64 ((b : Int) / 2 ^ F) (IntKind.u64.wrap (IntKind.u64.wrap (2 ^ E) - 1)) = ((expP E F b : Nat) : Int) := by
    rw [pow_cast F, ← Int.natCast_ediv]
    exact and_mask (b / 2 ^ F) E hb2 (by omega)
  have hs : (((b : Int) / 2 ^ (E + F)) == 1) = negP E F b := by
    unfold negP
    rw [pow_cast, ← Int.natCast_ediv, Bool.eq_iff_iff]
    simp only [beq_iff_eq, decide_eq_true_eq]
    omega
  have hB : wrap64 (wrap64 (2 ^ (E - 1)) - 1) = (PL.biasOf E : Int) := PL.wrap64_pow (E - 1) (by omega)
  have hT := PL.wrap64_pow E (by omega)
  have hBb : PL.biasOf E ≤ 127 ∧ 1 ≤ PL.biasOf E := by
    have p1 : 2 ^ (E - 1) ≤ 2 ^ 7 := PL.pow_bound _ _ (by omega)
    have p2 : 2 ^ 1 ≤ 2 ^ (E - 1) := PL.pow_bound _ _ (by omega)
    unfold PL.biasOf
    omega
  have hF8 : 2 ^ F ≤ 2 ^ 23 := PL.pow_bound _ _ hF2
  have hfr : fracP F b < 2 ^ F := Nat.mod_lt _ (Nat.two_pow_pos F)
  have hE8 : 2 ^ E ≤ 2 ^ 8 := PL.pow_bound _ _ hE2
  have hE4 : 2 ^ 2 ≤ 2 ^ E := PL.pow_bound _ _ hE1
  have hex : expP E F b < 2 ^ E := Nat.mod_lt _ (Nat.two_pow_pos E)
  have hfb : fracP F b < 8388608 := Nat.lt_of_lt_of_le hfr hF8
  have hxb : expP E F b < 256 := Nat.lt_of_lt_of_le hex hE8
  have b0 : Below w.heap.size w (w.alloc (Obj.cells #[Value.int IntKind.i64 (E : Int), Value.int IntKind.i64 (F : Int)] 51)) := (Below.refl _ _).alloc (Nat.le_refl _) _
  have HT := Lib.hid hx
  rw [← hx] at hT
  obtain ⟨V, hVe⟩ : ∃ V, V = 9218868437227405312 := ⟨_, rfl⟩
  have hV : V < 9223372036854775808 := by omega
  have CC := Lib.hid (fun w => copysign_any V 13830554455654793216 (by omega) (by omega) w)
  rw [show sgn 13830554455654793216 = true from by decide, if_pos rfl, rung_small V hV] at CC
  have CI := Lib.hid (fun w => inf_pos w)
  rw [← hVe] at CI ⊢
  rw [hf] at am1
  clear hr hb hex hE4 hE8 hx hBb hB hF8 hfr hb2 hVe hf hfb
  generalize negP E F b = s at *
  generalize expP E F b = x at *
  go_enter Tryd.func26, Tryd.ntmps26
  go_wp2_with fail
  refine (C.out _).mono ?_
  rintro e w1 ⟨hb1, rfl⟩
  have b1 := b0.trans (hb1.mono b0.size)
  have q0 : w1.cell? ⟨w.heap.size, 0, none⟩ = some (.int .i64 E) := (hb1.cell (p := ⟨w.heap.size, 0, none⟩) (by simp)).trans (by simp [go_sem])
  have q1 : w1.cell? ⟨w.heap.size, 1, none⟩ = some (.int .i64 F) := (hb1.cell (p := ⟨w.heap.size, 1, none⟩) (by simp)).trans (by simp [go_sem])
  go_wp2_with fail
  go_quiet (fail)
  go_wp2_with fail
  refine (CI.out _).mono ?_
  rintro e w2 ⟨rfl, rfl⟩
  cases s
  · go_wp2_with fail
    go_ret2
    exact ⟨below_drewN b1 nq, by simp⟩
  · go_wp2_with fail
    refine (CC.out _).mono ?_
    rintro e w9 ⟨rfl, rfl⟩
    go_wp2_with fail
    go_ret2
    exact ⟨below_drewN b1 nq, by simp⟩

set_option maxRecDepth 100000 in
set_option maxHeartbeats 1000000 in
theorem unpack_sub (b E F : Nat) (w : World) (hb : b < 18446744073709551616) (hr : b / 2 ^ (1 + E + F) = 0) (hE1 : 2 ≤ E) (hE2 : E ≤ 8) (hF1 : 1 ≤ F) (hF2 : F ≤ 23) (hx : expP E F b = 0) (hG : Glob w) :
    Calls Tryd.prog 26 #[.int .u64 b, .agg #[.int .i64 E, .int .i64 F]] w fun e w' => Below w.heap.size w w' ∧ e = .returned (.tuple #[.float .f64 ((if negP E F b then 9223372036854775808 else 0) + PL.rungOf Ieee.double (fracP F b) (1 - (PL.biasOf E : Int) - F)), .int .i64 0]) := by
  have C := Lib.hid (fun w => right_fmt (E : Int) (F : Int) w)
  rw [show rightB (E : Int) (F : Int) = true from decide_eq_true ⟨by omega, by omega, by omega, by omega⟩] at C
  have hq : (((b : Int) / 2 ^ (1 + E + F)) != 0) = false := by
    rw [pow_cast, ← Int.natCast_ediv]
    simp only [bne_eq_false_iff_eq]
    omega
  have am1 : bits .and .u64 (b : Int) (IntKind.u64.wrap (IntKind.u64.wrap (2 ^ F) - 1)) = ((fracP F b : Nat) : Int) := and_mask b F hb (by omega)
  have hb2 : b / 2 ^ F < 18446744073709551616 := Nat.lt_of_le_of_lt (Nat.div_le_self _ _) hb
  have am2 : bits .and .u64 ((b : Int) / 2 ^ F) (IntKind.u64.wrap (IntKind.u64.wrap (2 ^ E) - 1)) = ((expP E F b : Nat) : Int) := by
    rw [pow_cast F, ← Int.natCast_ediv]
    exact and_mask (b / 2 ^ F) E hb2 (by omega)
  have hs : (((b : Int) / 2 ^ (E + F)) == 1) = negP E F b := by
    unfold negP
    rw [pow_cast, ← Int.natCast_ediv, Bool.eq_iff_iff]
    simp only [beq_iff_eq, decide_eq_true_eq]
    omega
  have hB : wrap64 (wrap64 (2 ^ (E - 1)) - 1) = (PL.biasOf E : Int) := PL.wrap64_pow (E - 1) (by omega)
  have hT := PL.wrap64_pow E (by omega)
  have hBb : PL.biasOf E ≤ 127 ∧ 1 ≤ PL.biasOf E := by
    have p1 : 2 ^ (E - 1) ≤ 2 ^ 7 := PL.pow_bound _ _ (by omega)
    have p2 : 2 ^ 1 ≤ 2 ^ (E - 1) := PL.pow_bound _ _ (by omega)
    unfold PL.biasOf
    omega
  have hF8 : 2 ^ F ≤ 2 ^ 23 := PL.pow_bound _ _ hF2
  have hfr : fracP F b < 2 ^ F := Nat.mod_lt _ (Nat.two_pow_pos F)
  have hE8 : 2 ^ E ≤ 2 ^ 8 := PL.pow_bound _ _ hE2
  have hE4 : 2 ^ 2 ≤ 2 ^ E := PL.pow_bound _ _ hE1
  have hex : expP E F b < 2 ^ E := Nat.mod_lt _ (Nat.two_pow_pos E)
  have hfb : fracP F b < 8388608 := Nat.lt_of_lt_of_le hfr hF8
  have hxb : expP E F b < 256 := Nat.lt_of_lt_of_le hex hE8
  have b0 : Below w.heap.size w (w.alloc (Obj.cells #[Value.int IntKind.i64 (E : Int), Value.int IntKind.i64 (F : Int)] 51)) := (Below.refl _ _).alloc (Nat.le_refl _) _
  have HG := Lib.hid hG
  have hT3 : ((0 : Int) == ((2 ^ E - 1 : Nat) : Int)) = false := by
    have : 0 < 2 ^ E - 1 := by omega
    generalize 2 ^ E - 1 = t at *
    simp; omega
  have CM := Lib.hid (fun w (hG : Glob w) => make_any ((fracP F b : Nat) : Int) (1 - (PL.biasOf E : Int) - F) (by omega) (by omega) w hG.g0 hG.g1 hG.sz)
  rw [decide_eq_false (show ¬ ((fracP F b : Nat) : Int) < 0 by omega), show makeW false ((fracP F b : Nat) : Int).natAbs (1 - (PL.biasOf E : Int) - F) = PL.rungOf Ieee.double (fracP F b) (1 - (PL.biasOf E : Int) - F) from by
    unfold makeW
    rw [if_neg (by simp), Nat.zero_add, show min (max (1 - (PL.biasOf E : Int) - F) (-5000)) 5000 = 1 - (PL.biasOf E : Int) - F by omega]
    rfl] at CM
  have hV : PL.rungOf Ieee.double (fracP F b) (1 - (PL.biasOf E : Int) - F) < 9223372036854775808 := rung_lt _ _
  obtain ⟨V, hVe⟩ : ∃ V, PL.rungOf Ieee.double (fracP F b) (1 - (PL.biasOf E : Int) - F) = V := ⟨_, rfl⟩
  rw [hVe] at hV CM ⊢
  have CC := Lib.hid (fun w => copysign_any V 13830554455654793216 (by omega) (by omega) w)
  rw [show sgn 13830554455654793216 = true from by decide, if_pos rfl, rung_small V hV] at CC
  rw [hx] at am2
  clear hr hb hex hE4 hE8 hF8 hfr hb2 hVe hx hxb hG
  generalize negP E F b = s at *
  generalize fracP F b = f at *
  generalize 2 ^ E - 1 = T at *
  generalize PL.biasOf E = Bi at *
  go_enter Tryd.func26, Tryd.ntmps26
  go_wp2_with fail
  refine (C.out _).mono ?_
  rintro e w1 ⟨hb1, rfl⟩
  have b1 := b0.trans (hb1.mono b0.size)
  have q0 : w1.cell? ⟨w.heap.size, 0, none⟩ = some (.int .i64 E) := (hb1.cell (p := ⟨w.heap.size, 0, none⟩) (by simp)).trans (by simp [go_sem])
  have q1 : w1.cell? ⟨w.heap.size, 1, none⟩ = some (.int .i64 F) := (hb1.cell (p := ⟨w.heap.size, 1, none⟩) (by simp)).trans (by simp [go_sem])
  go_wp2_with fail
  go_quiet (fail)
  go_wp2_with fail
  refine (CM.out _ (HG.out.below (below_drewN b1 nq))).mono ?_
  rintro e w2 ⟨rfl, hb2⟩
  have b2 : Below w.heap.size w w2 := (below_drewN b1 nq).trans (hb2.mono b1.size)
  have q2 : w2.cell? ⟨w.heap.size, 0, none⟩ = some (.int .i64 E) := (hb2.cell (p := ⟨w.heap.size, 0, none⟩) (World.block_lt_of_cell? _ _ q0)).trans q0
  have q3 : w2.cell? ⟨w.heap.size, 1, none⟩ = some (.int .i64 F) := (hb2.cell (p := ⟨w.heap.size, 1, none⟩) (World.block_lt_of_cell? _ _ q1)).trans q1
  cases s
  · go_wp2_with fail
    go_ret2
    exact ⟨b2, by simp⟩
  · go_wp2_with fail
    refine (CC.out _).mono ?_
    rintro e w9 ⟨rfl, rfl⟩
    go_wp2_with fail
    go_ret2
    exact ⟨b2, by simp⟩
end Go.Proofs.YtjjfkidddjcdcaaDoor
