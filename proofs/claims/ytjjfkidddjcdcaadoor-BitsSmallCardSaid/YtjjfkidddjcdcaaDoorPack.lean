/- Proved here: contracts of the program's right and Pack at this program. Conditions: as each theorem says. -/
import Derived.Test.YtjjfkidddjcdcaaDoorWhole
import Derived.Test.YtjjfkidddjcdcaaDoorMade
namespace Go.Proofs.YtjjfkidddjcdcaaDoor
open Go.ChangeShapes Go.WideShapes Go.ChangeAt Go.RowKit

def rightB (E F : Int) : Bool := decide (2 ≤ E ∧ E ≤ 8 ∧ 1 ≤ F ∧ F ≤ 23)

theorem right_fmt (E F : Int) (w : World) : Calls Tryd.prog 72 #[.agg #[.int .i64 E, .int .i64 F]] w fun e w' => Below w.heap.size w w' ∧ e = .returned (.bool (rightB E F)) := by
  unfold rightB
  by_cases h1 : 2 ≤ E
  · by_cases h2 : E ≤ 8
    · by_cases h3 : 1 ≤ F
      · by_cases h4 : F ≤ 23
        · rw [decide_eq_true ⟨h1, h2, h3, h4⟩]
          go_enter Tryd.func72, Tryd.ntmps72
          go_wp2_with fail
          go_ret
          exact ⟨(Below.refl _ _).alloc (Nat.le_refl _) _, rfl⟩
        · rw [decide_eq_false (fun h => h4 h.2.2.2)]
          go_enter Tryd.func72, Tryd.ntmps72
          go_wp2_with fail
          go_ret
          exact ⟨(Below.refl _ _).alloc (Nat.le_refl _) _, rfl⟩
      · rw [decide_eq_false (fun h => h3 h.2.2.1)]
        go_enter Tryd.func72, Tryd.ntmps72
        go_wp2_with fail
        go_ret
        exact ⟨(Below.refl _ _).alloc (Nat.le_refl _) _, rfl⟩
    · rw [decide_eq_false (fun h => h2 h.2.1)]
      go_enter Tryd.func72, Tryd.ntmps72
      go_wp2_with fail
      go_ret
      exact ⟨(Below.refl _ _).alloc (Nat.le_refl _) _, rfl⟩
  · rw [decide_eq_false (fun h => h1 h.1)]
    go_enter Tryd.func72, Tryd.ntmps72
    go_wp2_with fail
    go_ret
    exact ⟨(Below.refl _ _).alloc (Nat.le_refl _) _, rfl⟩

/-- The word of a small format that is nearest to the float b (which is a number). -/
def smallW (E F b : Nat) : Nat := (if sgn b then 2 ^ (E + F) else 0) + (if PL.rung b = 9218868437227405312 then (2 ^ E - 1) * 2 ^ F else PL.rungOf (PL.fmt E F) (PL.mant (PL.rung b)) (PL.place (PL.rung b)))

theorem pack_bad (b : Nat) (E F : Int) (w : World) (h : rightB E F = false) :
    Calls Tryd.prog 25 #[.float .f64 b, .agg #[.int .i64 E, .int .i64 F]] w fun e w' => Below w.heap.size w w' ∧ e = .returned (.tuple #[.int .u64 0, .int .i64 6]) := by
  have C := Lib.hid (fun w => right_fmt E F w)
  rw [h] at C
  clear h
  have b0 : Below w.heap.size w (w.alloc (Obj.cells #[Value.int IntKind.i64 E, Value.int IntKind.i64 F] 51)) := (Below.refl _ _).alloc (Nat.le_refl _) _
  go_enter Tryd.func25, Tryd.ntmps25
  go_wp2_with fail
  refine (C.out _).mono ?_
  rintro e w1 ⟨hb, rfl⟩
  go_wp2_with fail
  go_ret2
  exact ⟨b0.trans (hb.mono b0.size), rfl⟩

theorem rung_lt_fmt (E F m : Nat) (c : Int) : PL.rungOf (PL.fmt E F) m c < 2 ^ (E + F) := by
  have hp : (2 ^ E - 1) * 2 ^ F < 2 ^ (E + F) := by
    rw [Nat.pow_add]
    exact Nat.mul_lt_mul_of_pos_right (by have := Nat.two_pow_pos E; omega) (Nat.two_pow_pos F)
  by_cases h : m = 0
  · subst h; rw [PL.rung_zero]; exact Nat.two_pow_pos _
  · rw [PL.rung_eq _ _ _ h]
    exact Nat.lt_of_le_of_lt (Nat.min_le_right _ _) hp

/-- The sign's bit is laid above a word. -/
theorem or_top (R n : Nat) (hn : n < 64) (hR : R < 2 ^ n) : bits .or .u64 (R : Int) (IntKind.u64.wrap (2 ^ n)) = ((2 ^ n + R : Nat) : Int) := by
  have h64 : 2 ^ n < 2 ^ 64 := Nat.pow_lt_pow_right (by omega) hn
  rw [wrap_pow n hn]
  have h := u64_or_nat R (2 ^ n) (by omega) (by omega)
  rw [Nat.or_comm, nat_join n (2 ^ n) R (Nat.mod_self _) hR] at h
  exact h

set_option maxRecDepth 100000 in
set_option maxHeartbeats 1000000 in
theorem pack_norm (b E F : Nat) (w : World) (hb : b < 18446744073709551616) (h0 : 0 < expo b) (h1 : expo b < 2047) (hE1 : 2 ≤ E) (hE2 : E ≤ 8) (hF1 : 1 ≤ F) (hF2 : F ≤ 23) :
    Calls Tryd.prog 25 #[.float .f64 b, .agg #[.int .i64 E, .int .i64 F]] w fun e w' => Below w.heap.size w w' ∧ e = .returned (.tuple #[.int .u64 ((if sgn b then 2 ^ (E + F) else 0) + PL.rungOf (PL.fmt E F) (4503599627370496 + frac b) ((expo b : Int) - 1075) : Nat), .int .i64 0]) := by
  have C := Lib.hid (fun w => right_fmt (E : Int) (F : Int) w)
  rw [show rightB (E : Int) (F : Int) = true from decide_eq_true ⟨by omega, by omega, by omega, by omega⟩] at C
  have CS := Lib.hid (fun w => split_any b hb w)
  have hf : frac b < 4503599627370496 := by unfold frac; omega
  have ho := or_lead (frac b) hf
  have hB : wrap64 (wrap64 (2 ^ (E - 1)) - 1) = (PL.biasOf E : Int) := PL.wrap64_pow (E - 1) (by omega)
  have hBb : PL.biasOf E ≤ 127 ∧ 1 ≤ PL.biasOf E := by
    have p1 : 2 ^ (E - 1) ≤ 2 ^ 7 := PL.pow_bound _ _ (by omega)
    have p2 : 2 ^ 1 ≤ 2 ^ (E - 1) := PL.pow_bound _ _ (by omega)
    unfold PL.biasOf
    omega
  have b0 : Below w.heap.size w (w.alloc (Obj.cells #[Value.int IntKind.i64 (E : Int), Value.int IntKind.i64 (F : Int)] 51)) := (Below.refl _ _).alloc (Nat.le_refl _) _
  generalize expo b = x at *
  generalize frac b = f at *
  generalize sgn b = s at *
  obtain ⟨U, hU⟩ : ∃ U, 4503599627370496 + f = U := ⟨_, rfl⟩
  rw [hU] at ho ⊢
  have hUb : U < 9007199254740992 ∧ 4503599627370496 ≤ U := by omega
  clear hU
  obtain ⟨c, hc⟩ : ∃ c : Int, (x : Int) - 1075 = c := ⟨_, rfl⟩
  obtain ⟨d, hd⟩ : ∃ d : Nat, (d : Int) = max (max ((Go.Lib.bitLen U : Int) - (F + 1 : Nat)) (1 - (PL.biasOf E : Int) - F - c)) 0 := ⟨_, Int.toNat_of_nonneg (by omega)⟩
  have hL := Go.Lib.bitLen_le U 64 (Nat.le_refl _) (by omega)
  obtain ⟨r1, r2, r3, r4⟩ := round_rung E F U _ d c (by omega) rfl hd
  have C66 := Lib.hid (fun w => round_any U _ d c ((F : Int) + 1) (1 - (PL.biasOf E : Int) - F) w (by omega) rfl hL (by omega) (by omega) (by omega) (by omega) (by omega) (by omega) (by show (d : Int) = _; rw [hd]; rfl))
  have C67 := Lib.hid (fun w => encode_any (PL.rne U d) E F (roundE c (1 - (PL.biasOf E : Int) - F) d) w r2 r3 (by omega) (by omega) hE1 (by omega) hF1 (by omega))
  rw [r1] at C67
  have hlt := rung_lt_fmt E F U c
  have hor := or_top (PL.rungOf (PL.fmt E F) U c) (E + F) (by omega) hlt
  have hx47 : ((x : Int) == 2047) = false := by simp; omega
  rw [hc]
  clear hd r1 r2 r3 r4 hL hlt
  generalize PL.rungOf (PL.fmt E F) U c = R at *
  generalize PL.rne U d = M at *
  generalize roundE c (1 - (PL.biasOf E : Int) - F) d = Y at *
  generalize PL.biasOf E = Bi at *
  go_enter Tryd.func25, Tryd.ntmps25
  go_wp2_with fail
  refine (C.out _).mono ?_
  rintro e w1 ⟨hb1, rfl⟩
  have b1 := b0.trans (hb1.mono b0.size)
  have q0 : w1.cell? ⟨w.heap.size, 0, none⟩ = some (.int .i64 E) := (hb1.cell (p := ⟨w.heap.size, 0, none⟩) (by simp)).trans (by simp [go_sem])
  have q1 : w1.cell? ⟨w.heap.size, 1, none⟩ = some (.int .i64 F) := (hb1.cell (p := ⟨w.heap.size, 1, none⟩) (by simp)).trans (by simp [go_sem])
  go_wp2_with fail
  refine (CS.out _).mono ?_
  rintro e w2 ⟨rfl, rfl⟩
  go_wp2_with fail
  refine (C66.out _).mono ?_
  rintro e w2 ⟨rfl, rfl⟩
  go_wp2_with fail
  refine (C67.out _).mono ?_
  rintro e w3 ⟨rfl, hb3⟩
  have b3 := b1.trans (hb3.mono b1.size)
  have q2 : w3.cell? ⟨w.heap.size, 0, none⟩ = some (.int .i64 E) := (hb3.cell (p := ⟨w.heap.size, 0, none⟩) (World.block_lt_of_cell? _ _ q0)).trans q0
  have q3 : w3.cell? ⟨w.heap.size, 1, none⟩ = some (.int .i64 F) := (hb3.cell (p := ⟨w.heap.size, 1, none⟩) (World.block_lt_of_cell? _ _ q1)).trans q1
  cases s
  · go_wp2_with fail
    go_ret2
    exact ⟨b3, by simp⟩
  · go_wp2_with fail
    go_ret2
    exact ⟨b3, by simp⟩

theorem sub_none (E F r : Nat) (hr : r < 4503599627370496) (hE1 : 2 ≤ E) (hE2 : E ≤ 8) (hF : F ≤ 23) : PL.rungOf (PL.fmt E F) (PL.mant r) (PL.place r) = 0 := by
  rw [PL.mant_small r hr, PL.place_small r hr]
  by_cases h0 : r = 0
  · subst h0; exact PL.rung_zero _ _
  have hBb : PL.biasOf E ≤ 127 := by
    have p1 : 2 ^ (E - 1) ≤ 2 ^ 7 := PL.pow_bound _ _ (by omega)
    unfold PL.biasOf
    omega
  have hlog : r.log2 < 52 := (PL.log2_lt_iff r 52 h0).2 hr
  have hl : PL.lastOf (PL.fmt E F) r (-1074) = 1 - (PL.biasOf E : Int) - F := by
    unfold PL.lastOf
    rw [PL.least_eq]
    show max (-1074 + (r.log2 : Int) - (F : Int)) _ = _
    omega
  rw [PL.rung_eq _ _ _ h0, hl, PL.least_eq]
  have e1 : (-1074 - (1 - (PL.biasOf E : Int) - F)).toNat = 0 := by omega
  have e2 : (1 - (PL.biasOf E : Int) - F - (1 - (PL.biasOf E : Int) - F)).toNat = 0 := by omega
  obtain ⟨t, ht⟩ : ∃ t, (1 - (PL.biasOf E : Int) - F - -1074).toNat = t := ⟨_, rfl⟩
  rw [e1, e2, ht, Nat.shiftLeft_zero, Nat.zero_mul, Nat.zero_add]
  have hz : PL.rne r t = 0 := by
    refine PL.rneG_small _ _ ?_
    have : 2 ^ 53 ≤ 2 ^ t := PL.pow_bound _ _ (by omega)
    generalize 2 ^ t = p at *
    omega
  rw [hz]
  exact Nat.zero_min _

set_option maxRecDepth 100000 in
set_option maxHeartbeats 1000000 in
theorem pack_sub (b E F : Nat) (w : World) (hb : b < 18446744073709551616) (h0 : expo b = 0) (hE1 : 2 ≤ E) (hE2 : E ≤ 8) (hF1 : 1 ≤ F) (hF2 : F ≤ 23) :
    Calls Tryd.prog 25 #[.float .f64 b, .agg #[.int .i64 E, .int .i64 F]] w fun e w' => Below w.heap.size w w' ∧ e = .returned (.tuple #[.int .u64 ((if sgn b then 2 ^ (E + F) else 0) + 0 : Nat), .int .i64 0]) := by
  have C := Lib.hid (fun w => right_fmt (E : Int) (F : Int) w)
  rw [show rightB (E : Int) (F : Int) = true from decide_eq_true ⟨by omega, by omega, by omega, by omega⟩] at C
  have CS := Lib.hid (fun w => split_any b hb w)
  rw [h0] at CS
  have hor : bits .or .u64 0 (IntKind.u64.wrap (2 ^ (E + F))) = ((2 ^ (E + F) + 0 : Nat) : Int) := or_top 0 (E + F) (by omega) (Nat.two_pow_pos _)
  have b0 : Below w.heap.size w (w.alloc (Obj.cells #[Value.int IntKind.i64 (E : Int), Value.int IntKind.i64 (F : Int)] 51)) := (Below.refl _ _).alloc (Nat.le_refl _) _
  clear h0
  generalize frac b = f at *
  generalize sgn b = s at *
  go_enter Tryd.func25, Tryd.ntmps25
  go_wp2_with fail
  refine (C.out _).mono ?_
  rintro e w1 ⟨hb1, rfl⟩
  have b1 := b0.trans (hb1.mono b0.size)
  have q0 : w1.cell? ⟨w.heap.size, 0, none⟩ = some (.int .i64 E) := (hb1.cell (p := ⟨w.heap.size, 0, none⟩) (by simp)).trans (by simp [go_sem])
  have q1 : w1.cell? ⟨w.heap.size, 1, none⟩ = some (.int .i64 F) := (hb1.cell (p := ⟨w.heap.size, 1, none⟩) (by simp)).trans (by simp [go_sem])
  go_wp2_with fail
  refine (CS.out _).mono ?_
  rintro e w2 ⟨rfl, rfl⟩
  cases s
  · go_wp2_with fail
    go_ret2
    exact ⟨b1, by simp⟩
  · go_wp2_with fail
    go_ret2
    exact ⟨b1, by simp⟩

set_option maxRecDepth 100000 in
set_option maxHeartbeats 1000000 in
theorem pack_inf (b E F : Nat) (w : World) (hb : b < 18446744073709551616) (h0 : expo b = 2047) (hf0 : frac b = 0) (hE1 : 2 ≤ E) (hE2 : E ≤ 8) (hF1 : 1 ≤ F) (hF2 : F ≤ 23) :
    Calls Tryd.prog 25 #[.float .f64 b, .agg #[.int .i64 E, .int .i64 F]] w fun e w' => Below w.heap.size w w' ∧ e = .returned (.tuple #[.int .u64 ((if sgn b then 2 ^ (E + F) else 0) + (2 ^ E - 1) * 2 ^ F : Nat), .int .i64 0]) := by
  have C := Lib.hid (fun w => right_fmt (E : Int) (F : Int) w)
  rw [show rightB (E : Int) (F : Int) = true from decide_eq_true ⟨by omega, by omega, by omega, by omega⟩] at C
  have CS := Lib.hid (fun w => split_any b hb w)
  rw [h0, hf0] at CS
  have hI := PL.word_inf E F hE1 (by omega) (by omega)
  have hp : (2 ^ E - 1) * 2 ^ F < 2 ^ (E + F) := by
    rw [Nat.pow_add]
    exact Nat.mul_lt_mul_of_pos_right (by have := Nat.two_pow_pos E; omega) (Nat.two_pow_pos F)
  have hor := or_top ((2 ^ E - 1) * 2 ^ F) (E + F) (by omega) hp
  have b0 : Below w.heap.size w (w.alloc (Obj.cells #[Value.int IntKind.i64 (E : Int), Value.int IntKind.i64 (F : Int)] 51)) := (Below.refl _ _).alloc (Nat.le_refl _) _
  clear h0 hf0 hp
  generalize (2 ^ E - 1) * 2 ^ F = I at *
  generalize sgn b = s at *
  go_enter Tryd.func25, Tryd.ntmps25
  go_wp2_with fail
  refine (C.out _).mono ?_
  rintro e w1 ⟨hb1, rfl⟩
  have b1 := b0.trans (hb1.mono b0.size)
  have q0 : w1.cell? ⟨w.heap.size, 0, none⟩ = some (.int .i64 E) := (hb1.cell (p := ⟨w.heap.size, 0, none⟩) (by simp)).trans (by simp [go_sem])
  have q1 : w1.cell? ⟨w.heap.size, 1, none⟩ = some (.int .i64 F) := (hb1.cell (p := ⟨w.heap.size, 1, none⟩) (by simp)).trans (by simp [go_sem])
  go_wp2_with fail
  refine (CS.out _).mono ?_
  rintro e w2 ⟨rfl, rfl⟩
  go_wp2_with fail
  go_quiet (fail)
  have b2 := below_drewN b1 nq
  cases s
  · go_wp2_with fail
    go_ret2
    exact ⟨b2, by simp⟩
  · go_wp2_with fail
    go_ret2
    exact ⟨b2, by simp⟩

def nanV (E F : Nat) : Nat := (2 ^ (E + 1) - 1) * 2 ^ (F - 1)

set_option maxRecDepth 100000 in
set_option maxHeartbeats 1000000 in
theorem pack_nan (b E F : Nat) (w : World) (hb : b < 18446744073709551616) (h0 : expo b = 2047) (hf0 : 0 < frac b) (hE1 : 2 ≤ E) (hE2 : E ≤ 8) (hF1 : 1 ≤ F) (hF2 : F ≤ 23) :
    Calls Tryd.prog 25 #[.float .f64 b, .agg #[.int .i64 E, .int .i64 F]] w fun e w' => Below w.heap.size w w' ∧ e = .returned (.tuple #[.int .u64 (nanV E F : Nat), .int .i64 0]) := by
  have C := Lib.hid (fun w => right_fmt (E : Int) (F : Int) w)
  rw [show rightB (E : Int) (F : Int) = true from decide_eq_true ⟨by omega, by omega, by omega, by omega⟩] at C
  have CS := Lib.hid (fun w => split_any b hb w)
  rw [h0] at CS
  have hI : _ = ((nanV E F : Nat) : Int) := PL.word_inf (E + 1) (F - 1) (by omega) (by omega) (by omega)
  have b0 : Below w.heap.size w (w.alloc (Obj.cells #[Value.int IntKind.i64 (E : Int), Value.int IntKind.i64 (F : Int)] 51)) := (Below.refl _ _).alloc (Nat.le_refl _) _
  have hfz : ((frac b : Int) != 0) = true := by simp; omega
  clear h0 hf0
  generalize nanV E F = I at *
  generalize frac b = f at *
  generalize sgn b = s at *
  go_enter Tryd.func25, Tryd.ntmps25
  go_wp2_with fail
  refine (C.out _).mono ?_
  rintro e w1 ⟨hb1, rfl⟩
  have b1 := b0.trans (hb1.mono b0.size)
  have q0 : w1.cell? ⟨w.heap.size, 0, none⟩ = some (.int .i64 E) := (hb1.cell (p := ⟨w.heap.size, 0, none⟩) (by simp)).trans (by simp [go_sem])
  have q1 : w1.cell? ⟨w.heap.size, 1, none⟩ = some (.int .i64 F) := (hb1.cell (p := ⟨w.heap.size, 1, none⟩) (by simp)).trans (by simp [go_sem])
  go_wp2_with fail
  refine (CS.out _).mono ?_
  rintro e w2 ⟨rfl, rfl⟩
  go_wp2_with fail
  go_quiet (fail)
  have b2 := below_drewN b1 nq
  go_wp2_with fail
  go_ret2
  exact ⟨b2, rfl⟩

/-- The program's Pack of what is a number. -/
theorem pack_num (b E F : Nat) (w : World) (hb : b < 18446744073709551616) (hn : PL.rung b ≤ 9218868437227405312) (hE1 : 2 ≤ E) (hE2 : E ≤ 8) (hF1 : 1 ≤ F) (hF2 : F ≤ 23) :
    Calls Tryd.prog 25 #[.float .f64 b, .agg #[.int .i64 E, .int .i64 F]] w fun e w' => Below w.heap.size w w' ∧ e = .returned (.tuple #[.int .u64 (smallW E F b : Nat), .int .i64 0]) := by
  obtain ⟨p1, p2, p3⟩ := rung_parts b hb
  unfold smallW
  rcases Nat.lt_trichotomy (PL.rung b) 9218868437227405312 with h | h | h
  · rw [if_neg (show ¬ PL.rung b = 9218868437227405312 by omega)]
    by_cases hx : expo b = 0
    · rw [sub_none E F (PL.rung b) (by omega) hE1 hE2 hF2]
      exact pack_sub b E F w hb hx hE1 hE2 hF1 hF2
    · have hm : PL.mant (PL.rung b) = 4503599627370496 + frac b := by rw [p1]; exact PL.mant_norm _ _ (by omega) p2
      have hp : PL.place (PL.rung b) = (expo b : Int) - 1075 := by rw [p1]; exact PL.place_norm _ _ (by omega) p2
      rw [hm, hp]
      exact pack_norm b E F w hb (by omega) (by omega) hE1 hE2 hF1 hF2
  · rw [if_pos h]
    exact pack_inf b E F w hb (by omega) (by omega) hE1 hE2 hF1 hF2
  · omega
end Go.Proofs.YtjjfkidddjcdcaaDoor
