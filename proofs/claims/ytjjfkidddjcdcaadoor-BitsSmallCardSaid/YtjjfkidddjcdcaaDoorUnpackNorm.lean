/- Proved here: the contract of the program's Unpack where the exponent is neither 0 nor full. Conditions: as the theorem says. -/
import Derived.Test.YtjjfkidddjcdcaaDoorUnpack
import Derived.Deep.RegionHeld3
import Derived.Deep.CutRange
namespace Go.Proofs.YtjjfkidddjcdcaaDoor
open Go.ChangeShapes Go.WideShapes Go.ChangeAt Go.RowKit

theorem wrap64_two (F : Nat) (hF : F ≤ 23) : wrap64 (2 ^ F) = ((2 ^ F : Nat) : Int) := by
  have h : 2 ^ F ≤ 2 ^ 23 := PL.pow_bound _ _ hF
  rw [pow_cast]
  generalize 2 ^ F = p at *
  exact IntWalk.wrap64_in _ ⟨by omega, by omega⟩
theorem lead_bound (F f : Nat) (hF : F ≤ 23) (hf : f < 2 ^ F) : 2 ^ F + f < 16777216 ∧ f < 9223372036854775808 ∧ 2 ^ F < 9223372036854775808 := by
  have h : 2 ^ F ≤ 2 ^ 23 := PL.pow_bound _ _ hF
  generalize 2 ^ F = p at *
  omega
theorem or_lead_i64 (F f : Nat) (hF : F ≤ 23) (hf : f < 2 ^ F) : bits .or .i64 (f : Int) (wrap64 (2 ^ F)) = ((2 ^ F + f : Nat) : Int) := by
  obtain ⟨_, h1, h2⟩ := lead_bound F f hF hf
  rw [wrap64_two F hF, i64_or _ _ h1 h2, Nat.or_comm, nat_join F (2 ^ F) _ (Nat.mod_self _) hf]
theorem ne_cast (x t : Nat) (h : x < t) : ((x : Int) == (t : Int)) = false := by simp; omega
theorem make_body (M : Nat) (c : Int) (h1 : -5000 ≤ c) (h2 : c ≤ 5000) (hM : M < 16777216) (w : World) (hG : Glob w) :
    Calls Tryd.prog 23 #[.int .i64 M, .int .i64 c] w fun e' w' => e' = .returned (.float .f64 (PL.rungOf Ieee.double M c)) ∧ Below w.heap.size w w' := by
  have h := make_any (M : Int) c (by omega) (by omega) w hG.g0 hG.g1 hG.sz
  rw [decide_eq_false (show ¬ (M : Int) < 0 by omega), show makeW false (M : Int).natAbs c = PL.rungOf Ieee.double M c from by
    unfold makeW
    rw [if_neg (by simp), Nat.zero_add, show min (max c (-5000)) 5000 = c by omega]
    rfl] at h
  exact h

set_option maxRecDepth 100000 in
set_option maxHeartbeats 6000000 in
theorem unpack_norm (b E F : Nat) (w : World) (hb : b < 18446744073709551616) (hr : b / 2 ^ (1 + E + F) = 0) (hE1 : 2 ≤ E) (hE2 : E ≤ 8) (hF1 : 1 ≤ F) (hF2 : F ≤ 23) (hx : 0 < expP E F b) (hx2 : expP E F b < 2 ^ E - 1) (hG : Glob w) :
    Calls Tryd.prog 26 #[.int .u64 b, .agg #[.int .i64 E, .int .i64 F]] w fun e w' => Below w.heap.size w w' ∧ e = .returned (.tuple #[.float .f64 ((if negP E F b then 9223372036854775808 else 0) + PL.rungOf Ieee.double (2 ^ F + fracP F b) ((expP E F b : Int) - PL.biasOf E - F)), .int .i64 0]) := by
  have C := Lib.hid (fun w => right_fmt (E : Int) (F : Int) w)
  rw [show rightB (E : Int) (F : Int) = true from decide_eq_true ⟨by omega, by omega, by omega, by omega⟩] at C
  have hq : (((b : Int) / 2 ^ (1 + E + F)) != 0) = false := by
    rw [pow_cast, ← Int.natCast_ediv]
    simp only [bne_eq_false_iff_eq]
    omega
  have am1 : bits .and .u64 (b : Int) (IntKind.u64.wrap (IntKind.u64.wrap (2 ^ F) - 1)) = ((fracP F b : Nat) : Int) := and_mask b F hb (by omega)
  have hb2 : b / 2 ^ F < 18446744073709551616 := Nat.lt_of_le_of_lt (Nat.div_le_self _ _) hb
  have am2 : bits .and .u64 ((b : Int) / 2 ^ F) (IntKind.u64.wrap (IntKind.u64.wrap (2 ^ E) - 1)) = ((expP E F b : Nat) : Int) := by
    rw [pow_cast F, ← Int.natCast_ediv]
    exact and_mask (b / 2 ^ F) E hb2 (by omega)
  have hs : (((b : Int) / 2 ^ (E + F)) == 1) = negP E F b := by
    unfold negP
    rw [pow_cast, ← Int.natCast_ediv, Bool.eq_iff_iff]
    simp only [beq_iff_eq, decide_eq_true_eq]
    omega
  have hB : wrap64 (wrap64 (2 ^ (E - 1)) - 1) = (PL.biasOf E : Int) := PL.wrap64_pow (E - 1) (by omega)
  have hT := PL.wrap64_pow E (by omega)
  have hBb : PL.biasOf E ≤ 127 ∧ 1 ≤ PL.biasOf E := by
    have p1 : 2 ^ (E - 1) ≤ 2 ^ 7 := PL.pow_bound _ _ (by omega)
    have p2 : 2 ^ 1 ≤ 2 ^ (E - 1) := PL.pow_bound _ _ (by omega)
    unfold PL.biasOf
    omega
  have hF8 : 2 ^ F ≤ 2 ^ 23 := PL.pow_bound _ _ hF2
  have hfr : fracP F b < 2 ^ F := Nat.mod_lt _ (Nat.two_pow_pos F)
  have hE8 : 2 ^ E ≤ 2 ^ 8 := PL.pow_bound _ _ hE2
  have hE4 : 2 ^ 2 ≤ 2 ^ E := PL.pow_bound _ _ hE1
  have hex : expP E F b < 2 ^ E := Nat.mod_lt _ (Nat.two_pow_pos E)
  have hfb : fracP F b < 8388608 := Nat.lt_of_lt_of_le hfr hF8
  have hxb : expP E F b < 256 := Nat.lt_of_lt_of_le hex hE8
  have b0 : Below w.heap.size w (w.alloc (Obj.cells #[Value.int IntKind.i64 (E : Int), Value.int IntKind.i64 (F : Int)] 51)) := (Below.refl _ _).alloc (Nat.le_refl _) _
  have HG := Lib.hid hG
  have AM1 := Lib.hid am1
  have AM2 := Lib.hid am2
  have HSg := Lib.hid hs
  have HBi := Lib.hid hB
  have HTt := Lib.hid hT
  clear am1 am2 hs hB hT
  have hT3 := ne_cast (expP E F b) (2 ^ E - 1) hx2
  have hio := or_lead_i64 F (fracP F b) hF2 hfr
  obtain ⟨hmb, _, _⟩ := lead_bound F (fracP F b) hF2 hfr
  clear hr hb hb2 hE4 hE8 hF8 hfr hex hx2
  obtain ⟨M, hM⟩ : ∃ M, 2 ^ F + fracP F b = M := ⟨_, rfl⟩
  rw [hM] at hio hmb ⊢
  clear hM
  have am1 := AM1.out
  have am2 := AM2.out
  have hs := HSg.out
  have hB := HBi.out
  have hT := HTt.out
  clear AM1 AM2 HSg HBi HTt
  generalize negP E F b = s at *
  generalize fracP F b = f at *
  generalize expP E F b = x at *
  generalize 2 ^ E - 1 = T at *
  generalize PL.biasOf E = Bi at *
  have e1 : bits .or .i64 (f : Int) (IntKind.i64.wrap (2 ^ F)) = (M : Int) := by
    have h : IntKind.i64.wrap (2 ^ F) = wrap64 (2 ^ F) := by rw [IntKind.wrap_i64, pow_cast, wrap64]
    rw [h]; exact hio
  have e2 : IntKind.i64.wrap (IntKind.i64.wrap ((x : Int) - Bi) - F) = (x : Int) - Bi - F := by
    clear am1 am2 hs hB hT hio hq e1
    rw [IntKind.wrap_i64, IntKind.wrap_i64]
    omega
  have CM : Hid (∀ w, Glob w → Calls Tryd.prog 23 #[.int .i64 (bits .or .i64 (f : Int) (IntKind.i64.wrap (2 ^ F))), .int .i64 (IntKind.i64.wrap (IntKind.i64.wrap ((x : Int) - Bi) - F))] w fun e' w' => e' = .returned (.float .f64 (PL.rungOf Ieee.double M ((x : Int) - Bi - F))) ∧ Below w.heap.size w w') := Lib.hid (fun w hG => by
    rw [e1, e2]
    exact make_body M ((x : Int) - Bi - F) (by clear am1 am2 hs hB hT hio hq e1 e2; omega) (by clear am1 am2 hs hB hT hio hq e1 e2; omega) hmb w hG)
  clear e1 e2
  have hV : PL.rungOf Ieee.double M ((x : Int) - Bi - F) < 9223372036854775808 := rung_lt _ _
  obtain ⟨V, hVe⟩ : ∃ V, PL.rungOf Ieee.double M ((x : Int) - Bi - F) = V := ⟨_, rfl⟩
  rw [hVe] at hV CM ⊢
  clear hVe
  have CC := Lib.hid (fun w => copysign_any V 13830554455654793216 (by omega) (by omega) w)
  rw [show sgn 13830554455654793216 = true from by decide, if_pos rfl, rung_small V hV] at CC
  clear hG
  go_enter Tryd.func26, Tryd.ntmps26
  go_wp2_with fail
  refine (C.out _).mono ?_
  rintro e w1 ⟨hb1, rfl⟩
  have b1 := b0.trans (hb1.mono b0.size)
  have q0 : w1.cell? ⟨w.heap.size, 0, none⟩ = some (.int .i64 E) := (hb1.cell (p := ⟨w.heap.size, 0, none⟩) (by simp)).trans (by simp [go_sem])
  have q1 : w1.cell? ⟨w.heap.size, 1, none⟩ = some (.int .i64 F) := (hb1.cell (p := ⟨w.heap.size, 1, none⟩) (by simp)).trans (by simp [go_sem])
  go_wp2_with fail
  go_quiet (fail)
  go_wp2_with fail
  have HS := Lib.hid hs
  try rw [hB]
  clear hB hT hT3 am1 am2 hq hs hio
  have z0 := World.block_lt_of_cell? _ _ q0
  have H0 : (w1.drewN nq).drew.cell? ⟨w.heap.size, 1, none⟩ = some (.int .i64 F) := q1
  have B0 : Below w.heap.size w (w1.drewN nq).drew := below_drewN b1 (nq + 1)
  have G0 : Glob (w1.drewN nq).drew := HG.out.below B0
  clear C HG
  go_region_held3 (fun w' => w'.cell? ⟨w.heap.size, 1, none⟩ = some (.int .i64 F)) (first | exact H0 | exact (hb2.cell (p := ⟨w.heap.size, 1, none⟩) z0).trans H0) (first | (go_at_call 23; refine (CM.out _ G0).mono ?_; rintro e w2 ⟨rfl, hb2⟩))
  have b2 : Below w.heap.size w w2 := B0.trans (hb2.mono B0.size)
  have q2 : w2.cell? ⟨w.heap.size, 0, none⟩ = some (.int .i64 E) := (hb2.cell (p := ⟨w.heap.size, 0, none⟩) z0).trans q0
  have q3 : w2.cell? ⟨w.heap.size, 1, none⟩ = some (.int .i64 F) := (hb2.cell (p := ⟨w.heap.size, 1, none⟩) z0).trans q1
  have hs := HS.out
  clear HS CM hb2 H0 B0 G0
  cases s
  · go_wp2_with fail
    go_ret2
    exact ⟨b2, by simp⟩
  · go_wp2_with fail
    refine (CC.out _).mono ?_
    rintro e w3 ⟨rfl, rfl⟩
    go_wp2_with fail
    go_ret2
    exact ⟨b2, by simp⟩
end Go.Proofs.YtjjfkidddjcdcaaDoor
