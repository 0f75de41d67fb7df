/- Proved here: the walk of enclosurelaw.BitsSmall at this program: it returns true. Conditions: as the theorem says.
   Proved here: the walk of enclosurelaw.BitsSmall at this program: it returns true. Conditions: as the theorem says. -/
import Derived.Test.YtjjfkidddjcdcaaDoorSmall1
import Derived.Test.YtjjfkidddjcdcaaDoorLarge2
namespace Go.Proofs.YtjjfkidddjcdcaaDoor
open Go.ChangeShapes Go.WideShapes Go.ChangeAt Go.RowKit

theorem small_num (b E F : Nat) (w : World) (hb : b < 18446744073709551616) (hn : PL.rung b ≤ 9218868437227405312) (hE1 : 2 ≤ E) (hE2 : E ≤ 8) (hF1 : 1 ≤ F) (hF2 : F ≤ 23) :
    Calls Tryd.prog 27 #[.float .f64 b, .agg #[.int .i64 E, .int .i64 F]] w fun e w' => Below w.heap.size w w' ∧ e = .returned (.int .u64 (smallW E F b : Nat)) := by
  have hs : smallW E F b = signW E F b + (if PL.rung b = 9218868437227405312 then (2 ^ E - 1) * 2 ^ F else PL.rungOf (PL.fmt E F) (PL.mant (PL.rung b)) (PL.place (PL.rung b))) := rfl
  rw [hs]
  by_cases h0 : PL.rung b = 0
  · rw [if_neg (show ¬ PL.rung b = 9218868437227405312 by omega), h0, show PL.mant 0 = 0 from rfl, PL.rung_zero, Nat.add_zero]
    exact small_zero b E F w hb h0 hE1 hE2 hF1 hF2
  · by_cases h1 : PL.rung b = 9218868437227405312
    · rw [if_pos h1]
      exact small_inf b E F w hb h1 hE1 hE2 hF1 hF2
    · rw [if_neg h1]
      exact small_core b E F w hb (by omega) (by omega) hE1 hE2 hF1 hF2

theorem unpack_num (b E F : Nat) (w : World) (hb : b < 18446744073709551616) (hr : b / 2 ^ (1 + E + F) = 0) (hE1 : 2 ≤ E) (hE2 : E ≤ 8) (hF1 : 1 ≤ F) (hF2 : F ≤ 23) (hn : ¬ (expP E F b = 2 ^ E - 1 ∧ fracP F b ≠ 0)) (hG : Glob w) :
    Calls Tryd.prog 26 #[.int .u64 b, .agg #[.int .i64 E, .int .i64 F]] w fun e w' => Below w.heap.size w w' ∧ e = .returned (.tuple #[.float .f64 (largeW E F b), .int .i64 0]) := by
  have hex : expP E F b < 2 ^ E := Nat.mod_lt _ (Nat.two_pow_pos E)
  unfold largeW bodyP
  by_cases c1 : expP E F b = 2 ^ E - 1
  · rw [if_pos c1]
    have hf : fracP F b = 0 := by
      apply Classical.byContradiction; intro h; exact hn ⟨c1, h⟩
    exact unpack_inf b E F w hb hr hE1 hE2 hF1 hF2 c1 hf
  · rw [if_neg c1]
    by_cases c2 : 0 < expP E F b
    · rw [if_pos c2]
      exact unpack_norm b E F w hb hr hE1 hE2 hF1 hF2 c2 (by omega) hG
    · rw [if_neg c2]
      exact unpack_sub b E F w hb hr hE1 hE2 hF1 hF2 (by omega) hG

theorem first_word : smallW 5 10 4609434218613702656 = 15872 := by decide +kernel
theorem first_pack (w : World) : Calls Tryd.prog 25 #[.float .f64 4609434218613702656, .agg #[.int .i64 5, .int .i64 10]] w fun e w' => Below w.heap.size w w' ∧ e = .returned (.tuple #[.int .u64 15872, .int .i64 0]) := by
  have h := pack_num 4609434218613702656 5 10 w (by decide) (by decide) (by decide) (by decide) (by decide) (by decide)
  rw [first_word] at h
  exact h

set_option maxRecDepth 100000 in
set_option maxHeartbeats 1000000 in
/-- Where the format is none. -/
theorem law6_bad (x b : Nat) (E F : Int) (w : World) (h : rightB E F = false) :
    Calls Tryd.prog 6 #[.float .f64 x, .int .u64 b, .agg #[.int .i64 E, .int .i64 F]] w fun e w' => e = .returned (.bool true) ∧ Below w.heap.size w w' := by
  have C0 := Lib.hid (fun w => first_pack w)
  have C1 := Lib.hid (fun w => pack_bad x E F w h)
  have C2 := Lib.hid (fun w => unpack_bad b E F w h)
  have hh := of_decide_eq_false h
  clear h
  have b0 : Below w.heap.size w (w.alloc (Obj.cells #[Value.int IntKind.i64 E, Value.int IntKind.i64 F] 51)) := (Below.refl _ _).alloc (Nat.le_refl _) _
  go_enter Tryd.func6, Tryd.ntmps6
  go_wp2_with fail
  refine (C0.out _).mono ?_
  rintro e w1 ⟨hb1, rfl⟩
  have b1 := b0.trans (hb1.mono b0.size)
  have q0 : w1.cell? ⟨w.heap.size, 0, none⟩ = some (.int .i64 E) := (hb1.cell (p := ⟨w.heap.size, 0, none⟩) (by simp)).trans (by simp [go_sem])
  have q1 : w1.cell? ⟨w.heap.size, 1, none⟩ = some (.int .i64 F) := (hb1.cell (p := ⟨w.heap.size, 1, none⟩) (by simp)).trans (by simp [go_sem])
  have hz := World.block_lt_of_cell? _ _ q0
  clear hb1
  go_wp2_with fail
  refine (C1.out _).mono ?_
  rintro e w2 ⟨hb2, rfl⟩
  have b2 := b1.trans (hb2.mono b1.size)
  have q2 := (hb2.cell (p := ⟨w.heap.size, 0, none⟩) hz).trans q0
  have q3 := (hb2.cell (p := ⟨w.heap.size, 1, none⟩) hz).trans q1
  have hz2 := World.block_lt_of_cell? _ _ q2
  clear hb2 q0 q1 hz
  go_wp2_with fail
  refine (C2.out _).mono ?_
  rintro e w3 ⟨hb3, rfl⟩
  have b3 := b2.trans (hb3.mono b2.size)
  have q4 := (hb3.cell (p := ⟨w.heap.size, 0, none⟩) hz2).trans q2
  have q5 := (hb3.cell (p := ⟨w.heap.size, 1, none⟩) hz2).trans q3
  clear hb3 q2 q3 hz2 C0 C1 C2
  go_wp2_with fail
  all_goals first | (exfalso; omega) | (go_ret; exact ⟨rfl, b3⟩)

theorem eq_self (b : Nat) (hb : b < 18446744073709551616) : (FloatKind.f64.format.order b b == some .eq) = !nanB b := by
  have h := neq_self b hb
  rw [← h]
  simp [bne]

set_option maxRecDepth 100000 in
set_option maxHeartbeats 8000000 in
theorem law6_nan (x b E F : Nat) (w : World) (hx : x < 18446744073709551616) (hn : 9218868437227405312 < PL.rung x) (hb : b < 18446744073709551616) (hE1 : 2 ≤ E) (hE2 : E ≤ 8) (hF1 : 1 ≤ F) (hF2 : F ≤ 23) (hG : Glob w) :
    Calls Tryd.prog 6 #[.float .f64 x, .int .u64 b, .agg #[.int .i64 E, .int .i64 F]] w fun e w' => e = .returned (.bool true) ∧ Below w.heap.size w w' := by
  have C0 := Lib.hid (fun w => first_pack w)
  have hself := eq_self x hx
  have hI : _ = ((nanV E F : Nat) : Int) := PL.word_inf (E + 1) (F - 1) (by omega) (by omega) (by omega)
  obtain ⟨p1, p2, p3⟩ := rung_parts x hx
  have C1 := Lib.hid (fun w => pack_nan x E F w hx (by omega) (by omega) hE1 hE2 hF1 hF2)
  rw [show nanB x = true from decide_eq_true hn] at hself
  have HI := Lib.hid hI
  have b0 : Below w.heap.size w (w.alloc (Obj.cells #[Value.int IntKind.i64 (E : Int), Value.int IntKind.i64 (F : Int)] 51)) := (Below.refl _ _).alloc (Nat.le_refl _) _
  have HG := Lib.hid hG
  have hq : (((b : Int) / 2 ^ (1 + E + F)) != 0) = decide (¬ b / 2 ^ (1 + E + F) = 0) := by
    rw [pow_cast, ← Int.natCast_ediv, Bool.eq_iff_iff]
    simp only [bne_iff_ne, ne_eq, decide_eq_true_eq]
    omega
  have HQ := Lib.hid hq
  have CR := Lib.hid (fun (h : ¬ b / 2 ^ (1 + E + F) = 0) w => unpack_range b E F w h hE1 hE2 hF1 hF2)
  have CN := Lib.hid (fun (h : b / 2 ^ (1 + E + F) = 0) (h1 : expP E F b = 2 ^ E - 1) (h2 : fracP F b ≠ 0) w => unpack_nan b E F w hb h hE1 hE2 hF1 hF2 h1 (by omega))
  have CU := Lib.hid (fun (h : b / 2 ^ (1 + E + F) = 0) (hn : ¬ (expP E F b = 2 ^ E - 1 ∧ fracP F b ≠ 0)) w hG => unpack_num b E F w hb h hE1 hE2 hF1 hF2 hn hG)
  have LN := Lib.hid (fun (h1 : expP E F b = 2 ^ E - 1) (h2 : fracP F b ≠ 0) w => large_nan b E F w hb hE1 hE2 hF1 hF2 h1 h2)
  have LU := Lib.hid (fun (hn : ¬ (expP E F b = 2 ^ E - 1 ∧ fracP F b ≠ 0)) w => large_num b E F w hb hE1 hE2 hF1 hF2 hn)
  have LB := Lib.hid (small_back E F b)
  obtain ⟨y1, y2, _⟩ := large_parts E F b hE1 hE2 hF2
  have hbody := body_le E F b hE1 hE2 hF2
  have CB := Lib.hid (fun w => pack_num (largeW E F b) E F w y1 (by omega) hE1 hE2 hF1 hF2)
  clear hG hn hI hq y1 y2 hbody p1 p2 p3
  generalize nanV E F = W at *
  generalize largeW E F b = Y at *
  obtain ⟨NB, hNB⟩ : ∃ NB : Prop, NB = ¬ b / 2 ^ (1 + E + F) = 0 := ⟨_, rfl⟩
  go_enter Tryd.func6, Tryd.ntmps6
  go_wp2_with fail
  refine (C0.out _).mono ?_
  rintro e w1 ⟨hb1, rfl⟩
  have b1 := b0.trans (hb1.mono b0.size)
  have q0 : w1.cell? ⟨w.heap.size, 0, none⟩ = some (.int .i64 E) := (hb1.cell (p := ⟨w.heap.size, 0, none⟩) (by simp)).trans (by simp [go_sem])
  have q1 : w1.cell? ⟨w.heap.size, 1, none⟩ = some (.int .i64 F) := (hb1.cell (p := ⟨w.heap.size, 1, none⟩) (by simp)).trans (by simp [go_sem])
  have hz := World.block_lt_of_cell? _ _ q0
  clear hb1 b0
  go_wp2_with fail
  refine (C1.out _).mono ?_
  rintro e w2 ⟨hb2, rfl⟩
  have b2 := b1.trans (hb2.mono b1.size)
  have q2 := (hb2.cell (p := ⟨w.heap.size, 0, none⟩) hz).trans q0
  have q3 := (hb2.cell (p := ⟨w.heap.size, 1, none⟩) hz).trans q1
  have hz2 := World.block_lt_of_cell? _ _ q2
  clear hb2 q0 q1 hz C0 C1 b1 hNB NB
  go_wp2_with fail
  by_cases hr : b / 2 ^ (1 + E + F) = 0
  case neg =>
    have C2 := Lib.hid (CR.out hr)
    clear CR CN CU LN LU LB CB
    refine (C2.out _).mono ?_
    rintro e w3 ⟨hb3, rfl⟩
    have b3 := b2.trans (hb3.mono b2.size)
    have q4 := (hb3.cell (p := ⟨w.heap.size, 0, none⟩) hz2).trans q2
    have q5 := (hb3.cell (p := ⟨w.heap.size, 1, none⟩) hz2).trans q3
    have hz3 := World.block_lt_of_cell? _ _ q4
    have hI := HI.out
    have hq := HQ.out
    rw [decide_eq_true hr] at hq
    clear hb3 q2 q3 hz2 C2 hr HQ HI HG b2
    go_wp2_with fail
    all_goals first | (exfalso; omega) | skip
    go_quiet (fail)
    go_wp2_with fail
    go_ret
    exact ⟨rfl, below_drewN b3 nq⟩
  case pos =>
    by_cases hN : expP E F b = 2 ^ E - 1 ∧ fracP F b ≠ 0
    · have C2 := Lib.hid (CN.out hr hN.1 hN.2)
      have C3 := Lib.hid (LN.out hN.1 hN.2)
      clear CR CN CU LN LU LB CB
      refine (C2.out _).mono ?_
      rintro e w3 ⟨hb3, rfl⟩
      have b3 := b2.trans (hb3.mono b2.size)
      have q4 := (hb3.cell (p := ⟨w.heap.size, 0, none⟩) hz2).trans q2
      have q5 := (hb3.cell (p := ⟨w.heap.size, 1, none⟩) hz2).trans q3
      have hz3 := World.block_lt_of_cell? _ _ q4
      have hI := HI.out
      have hq := HQ.out
      rw [decide_eq_false (not_not_intro hr)] at hq
      have hy := neq_self 9221120237041090561 (by decide)
      rw [show nanB 9221120237041090561 = true by decide] at hy
      clear hb3 q2 q3 hz2 C2 hr HQ HI HG b2 hN
      go_wp2_with fail
      all_goals first | (exfalso; omega) | skip
      go_quiet (fail)
      go_wp2_with fail
      refine (C3.out _).mono ?_
      rintro e w5 ⟨hb5, rfl⟩
      have b5 := (below_drewN b3 nq).trans (hb5.mono (below_drewN b3 nq).size)
      go_wp2_with fail
      go_ret
      exact ⟨rfl, b5⟩
    · have C2 := Lib.hid (CU.out hr hN)
      have C3 := Lib.hid (LU.out hN)
      have hback := LB.out hr hE1 hE2 hF2 hN
      rw [hback] at CB
      have C22 := Lib.hid (fun w => bits_same Y w)
      clear CR CN CU LN LU LB hback
      refine (C2.out _ (HG.out.below b2)).mono ?_
      rintro e w3 ⟨hb3, rfl⟩
      have b3 := b2.trans (hb3.mono b2.size)
      have q4 := (hb3.cell (p := ⟨w.heap.size, 0, none⟩) hz2).trans q2
      have q5 := (hb3.cell (p := ⟨w.heap.size, 1, none⟩) hz2).trans q3
      have hz3 := World.block_lt_of_cell? _ _ q4
      have hI := HI.out
      have hq := HQ.out
      rw [decide_eq_false (not_not_intro hr)] at hq
      clear hb3 q2 q3 hz2 C2 hr HQ HI HG b2 hN
      go_wp2_with fail
      all_goals first | (exfalso; omega) | skip
      go_quiet (fail)
      go_wp2_with fail
      refine (C3.out _).mono ?_
      rintro e w5 ⟨hb5, rfl⟩
      have b5 := (below_drewN b3 nq).trans (hb5.mono (below_drewN b3 nq).size)
      have q8 : w5.cell? ⟨w.heap.size, 0, none⟩ = some (.int .i64 E) := (hb5.cell (p := ⟨w.heap.size, 0, none⟩) hz3).trans q4
      have q9 : w5.cell? ⟨w.heap.size, 1, none⟩ = some (.int .i64 F) := (hb5.cell (p := ⟨w.heap.size, 1, none⟩) hz3).trans q5
      clear hb5 q4 q5 hz3 b3
      go_wp2_with fail
      refine (CB.out _).mono ?_
      rintro e w6 ⟨hb6, rfl⟩
      have b6 := b5.trans (hb6.mono b5.size)
      clear hb6
      go_wp2_with fail
      refine (C22.out _).mono ?_
      rintro e w7 ⟨rfl, rfl⟩
      go_wp2_with fail
      go_ret
      exact ⟨rfl, b6⟩


end Go.Proofs.YtjjfkidddjcdcaaDoor

namespace Go.Proofs.YtjjfkidddjcdcaaDoor
open Go.ChangeShapes Go.WideShapes Go.ChangeAt Go.RowKit

set_option maxRecDepth 100000 in
set_option maxHeartbeats 8000000 in
theorem law6_num (x b E F : Nat) (w : World) (hx : x < 18446744073709551616) (hn : PL.rung x ≤ 9218868437227405312) (hb : b < 18446744073709551616) (hE1 : 2 ≤ E) (hE2 : E ≤ 8) (hF1 : 1 ≤ F) (hF2 : F ≤ 23) (hG : Glob w) :
    Calls Tryd.prog 6 #[.float .f64 x, .int .u64 b, .agg #[.int .i64 E, .int .i64 F]] w fun e w' => e = .returned (.bool true) ∧ Below w.heap.size w w' := by
  have C0 := Lib.hid (fun w => first_pack w)
  have hself := eq_self x hx
  have hI : _ = ((nanV E F : Nat) : Int) := PL.word_inf (E + 1) (F - 1) (by omega) (by omega) (by omega)
  have C1 := Lib.hid (fun w => pack_num x E F w hx hn hE1 hE2 hF1 hF2)
  have C27 := Lib.hid (fun w => small_num x E F w hx hn hE1 hE2 hF1 hF2)
  rw [show nanB x = false from decide_eq_false (by omega)] at hself
  have HI := Lib.hid hI
  have b0 : Below w.heap.size w (w.alloc (Obj.cells #[Value.int IntKind.i64 (E : Int), Value.int IntKind.i64 (F : Int)] 51)) := (Below.refl _ _).alloc (Nat.le_refl _) _
  have HG := Lib.hid hG
  have hq : (((b : Int) / 2 ^ (1 + E + F)) != 0) = decide (¬ b / 2 ^ (1 + E + F) = 0) := by
    rw [pow_cast, ← Int.natCast_ediv, Bool.eq_iff_iff]
    simp only [bne_iff_ne, ne_eq, decide_eq_true_eq]
    omega
  have HQ := Lib.hid hq
  have CR := Lib.hid (fun (h : ¬ b / 2 ^ (1 + E + F) = 0) w => unpack_range b E F w h hE1 hE2 hF1 hF2)
  have CN := Lib.hid (fun (h : b / 2 ^ (1 + E + F) = 0) (h1 : expP E F b = 2 ^ E - 1) (h2 : fracP F b ≠ 0) w => unpack_nan b E F w hb h hE1 hE2 hF1 hF2 h1 (by omega))
  have CU := Lib.hid (fun (h : b / 2 ^ (1 + E + F) = 0) (hn : ¬ (expP E F b = 2 ^ E - 1 ∧ fracP F b ≠ 0)) w hG => unpack_num b E F w hb h hE1 hE2 hF1 hF2 hn hG)
  have LN := Lib.hid (fun (h1 : expP E F b = 2 ^ E - 1) (h2 : fracP F b ≠ 0) w => large_nan b E F w hb hE1 hE2 hF1 hF2 h1 h2)
  have LU := Lib.hid (fun (hn : ¬ (expP E F b = 2 ^ E - 1 ∧ fracP F b ≠ 0)) w => large_num b E F w hb hE1 hE2 hF1 hF2 hn)
  have LB := Lib.hid (small_back E F b)
  obtain ⟨y1, y2, _⟩ := large_parts E F b hE1 hE2 hF2
  have hbody := body_le E F b hE1 hE2 hF2
  have CB := Lib.hid (fun w => pack_num (largeW E F b) E F w y1 (by omega) hE1 hE2 hF1 hF2)
  clear hG hn hI hq y1 y2 hbody
  generalize nanV E F = W at *
  generalize smallW E F x = V at *
  generalize largeW E F b = Y at *
  obtain ⟨NB, hNB⟩ : ∃ NB : Prop, NB = ¬ b / 2 ^ (1 + E + F) = 0 := ⟨_, rfl⟩
  go_enter Tryd.func6, Tryd.ntmps6
  go_wp2_with fail
  refine (C0.out _).mono ?_
  rintro e w1 ⟨hb1, rfl⟩
  have b1 := b0.trans (hb1.mono b0.size)
  have q0 : w1.cell? ⟨w.heap.size, 0, none⟩ = some (.int .i64 E) := (hb1.cell (p := ⟨w.heap.size, 0, none⟩) (by simp)).trans (by simp [go_sem])
  have q1 : w1.cell? ⟨w.heap.size, 1, none⟩ = some (.int .i64 F) := (hb1.cell (p := ⟨w.heap.size, 1, none⟩) (by simp)).trans (by simp [go_sem])
  have hz := World.block_lt_of_cell? _ _ q0
  clear hb1 b0
  go_wp2_with fail
  refine (C1.out _).mono ?_
  rintro e w2 ⟨hb2, rfl⟩
  have b2 := b1.trans (hb2.mono b1.size)
  have q2 := (hb2.cell (p := ⟨w.heap.size, 0, none⟩) hz).trans q0
  have q3 := (hb2.cell (p := ⟨w.heap.size, 1, none⟩) hz).trans q1
  have hz2 := World.block_lt_of_cell? _ _ q2
  clear hb2 q0 q1 hz C0 C1 b1 hNB NB
  go_wp2_with fail
  by_cases hr : b / 2 ^ (1 + E + F) = 0
  case neg =>
    have C2 := Lib.hid (CR.out hr)
    clear CR CN CU LN LU LB CB
    refine (C2.out _).mono ?_
    rintro e w3 ⟨hb3, rfl⟩
    have b3 := b2.trans (hb3.mono b2.size)
    have q4 := (hb3.cell (p := ⟨w.heap.size, 0, none⟩) hz2).trans q2
    have q5 := (hb3.cell (p := ⟨w.heap.size, 1, none⟩) hz2).trans q3
    have hz3 := World.block_lt_of_cell? _ _ q4
    have hI := HI.out
    have hq := HQ.out
    rw [decide_eq_true hr] at hq
    clear hb3 q2 q3 hz2 C2 hr HQ HI HG b2
    go_wp2_with fail
    all_goals first | (exfalso; omega) | skip
    go_quiet (fail)
    go_wp2_with fail
    refine (C27.out _).mono ?_
    rintro e w4 ⟨hb4, rfl⟩
    have b4 := (below_drewN b3 nq).trans (hb4.mono (below_drewN b3 nq).size)
    have q6 : w4.cell? ⟨w.heap.size, 0, none⟩ = some (.int .i64 E) := (hb4.cell (p := ⟨w.heap.size, 0, none⟩) hz3).trans q4
    have q7 : w4.cell? ⟨w.heap.size, 1, none⟩ = some (.int .i64 F) := (hb4.cell (p := ⟨w.heap.size, 1, none⟩) hz3).trans q5
    go_wp2_with fail
    go_ret
    exact ⟨rfl, b4⟩
  case pos =>
    by_cases hN : expP E F b = 2 ^ E - 1 ∧ fracP F b ≠ 0
    · have C2 := Lib.hid (CN.out hr hN.1 hN.2)
      have C3 := Lib.hid (LN.out hN.1 hN.2)
      clear CR CN CU LN LU LB CB
      refine (C2.out _).mono ?_
      rintro e w3 ⟨hb3, rfl⟩
      have b3 := b2.trans (hb3.mono b2.size)
      have q4 := (hb3.cell (p := ⟨w.heap.size, 0, none⟩) hz2).trans q2
      have q5 := (hb3.cell (p := ⟨w.heap.size, 1, none⟩) hz2).trans q3
      have hz3 := World.block_lt_of_cell? _ _ q4
      have hI := HI.out
      have hq := HQ.out
      rw [decide_eq_false (not_not_intro hr)] at hq
      have hy := neq_self 9221120237041090561 (by decide)
      rw [show nanB 9221120237041090561 = true by decide] at hy
      clear hb3 q2 q3 hz2 C2 hr HQ HI HG b2 hN
      go_wp2_with fail
      all_goals first | (exfalso; omega) | skip
      go_quiet (fail)
      go_wp2_with fail
      refine (C27.out _).mono ?_
      rintro e w4 ⟨hb4, rfl⟩
      have b4 := (below_drewN b3 nq).trans (hb4.mono (below_drewN b3 nq).size)
      have q6 : w4.cell? ⟨w.heap.size, 0, none⟩ = some (.int .i64 E) := (hb4.cell (p := ⟨w.heap.size, 0, none⟩) hz3).trans q4
      have q7 : w4.cell? ⟨w.heap.size, 1, none⟩ = some (.int .i64 F) := (hb4.cell (p := ⟨w.heap.size, 1, none⟩) hz3).trans q5
      clear hb4 q4 q5 hz3 b3
      go_wp2_with fail
      refine (C3.out _).mono ?_
      rintro e w5 ⟨hb5, rfl⟩
      have b5 := b4.trans (hb5.mono b4.size)
      go_wp2_with fail
      go_ret
      exact ⟨rfl, b5⟩
    · have C2 := Lib.hid (CU.out hr hN)
      have C3 := Lib.hid (LU.out hN)
      have hback := LB.out hr hE1 hE2 hF2 hN
      rw [hback] at CB
      have C22 := Lib.hid (fun w => bits_same Y w)
      clear CR CN CU LN LU LB hback
      refine (C2.out _ (HG.out.below b2)).mono ?_
      rintro e w3 ⟨hb3, rfl⟩
      have b3 := b2.trans (hb3.mono b2.size)
      have q4 := (hb3.cell (p := ⟨w.heap.size, 0, none⟩) hz2).trans q2
      have q5 := (hb3.cell (p := ⟨w.heap.size, 1, none⟩) hz2).trans q3
      have hz3 := World.block_lt_of_cell? _ _ q4
      have hI := HI.out
      have hq := HQ.out
      rw [decide_eq_false (not_not_intro hr)] at hq
      clear hb3 q2 q3 hz2 C2 hr HQ HI HG b2 hN
      go_wp2_with fail
      all_goals first | (exfalso; omega) | skip
      go_quiet (fail)
      go_wp2_with fail
      refine (C27.out _).mono ?_
      rintro e w4 ⟨hb4, rfl⟩
      have b4 := (below_drewN b3 nq).trans (hb4.mono (below_drewN b3 nq).size)
      have q6 : w4.cell? ⟨w.heap.size, 0, none⟩ = some (.int .i64 E) := (hb4.cell (p := ⟨w.heap.size, 0, none⟩) hz3).trans q4
      have q7 : w4.cell? ⟨w.heap.size, 1, none⟩ = some (.int .i64 F) := (hb4.cell (p := ⟨w.heap.size, 1, none⟩) hz3).trans q5
      have hz4 := World.block_lt_of_cell? _ _ q6
      clear hb4 q4 q5 hz3 b3
      go_wp2_with fail
      refine (C3.out _).mono ?_
      rintro e w5 ⟨hb5, rfl⟩
      have b5 := b4.trans (hb5.mono b4.size)
      have q8 : w5.cell? ⟨w.heap.size, 0, none⟩ = some (.int .i64 E) := (hb5.cell (p := ⟨w.heap.size, 0, none⟩) hz4).trans q6
      have q9 : w5.cell? ⟨w.heap.size, 1, none⟩ = some (.int .i64 F) := (hb5.cell (p := ⟨w.heap.size, 1, none⟩) hz4).trans q7
      clear hb5 q6 q7 hz4 b4
      go_wp2_with fail
      refine (CB.out _).mono ?_
      rintro e w6 ⟨hb6, rfl⟩
      have b6 := b5.trans (hb6.mono b5.size)
      clear hb6
      go_wp2_with fail
      refine (C22.out _).mono ?_
      rintro e w7 ⟨rfl, rfl⟩
      go_wp2_with fail
      go_ret
      exact ⟨rfl, b6⟩

theorem law6_true (x b : Nat) (E F : Int) (w : World) (hx : x < 18446744073709551616) (hb : b < 18446744073709551616) (hG : Glob w) :
    Calls Tryd.prog 6 #[.float .f64 x, .int .u64 b, .agg #[.int .i64 E, .int .i64 F]] w fun e w' => e = .returned (.bool true) ∧ Below w.heap.size w w' := by
  by_cases h : rightB E F = true
  · obtain ⟨h1, h2, h3, h4⟩ := of_decide_eq_true h
    obtain ⟨E', rfl⟩ : ∃ n : Nat, E = n := ⟨E.toNat, by omega⟩
    obtain ⟨F', rfl⟩ : ∃ n : Nat, F = n := ⟨F.toNat, by omega⟩
    by_cases hn : 9218868437227405312 < PL.rung x
    · exact law6_nan x b E' F' w hx hn hb (by omega) (by omega) (by omega) (by omega) hG
    · exact law6_num x b E' F' w hx (by omega) hb (by omega) (by omega) (by omega) (by omega) hG
  · exact law6_bad x b E F w (by simpa using h)
end Go.Proofs.YtjjfkidddjcdcaaDoor
