/- Proved here: the contract of the document's Large at this program. Conditions: as each theorem says.
   Proved here: the contract of the document's Large at this program, of finite numbers. Conditions: as each theorem says. -/
import Derived.Test.YtjjfkidddjcdcaaDoorMade2
import Derived.Test.YtjjfkidddjcdcaaDoorRatOf
import Derived.Test.YtjjfkidddjcdcaaDoorWayBack
import Derived.Test.YtjjfkidddjcdcaaDoorUnpackNorm
import Derived.Test.YtjjfkidddjcdcaaDoorNear
import Derived.Deep.RegionHeld3
import Derived.Deep.CutRange
namespace Go.Proofs.YtjjfkidddjcdcaaDoor
open Go.ChangeShapes Go.WideShapes Go.ChangeAt Go.RowKit

theorem float_any (g k K : Nat) (a : Int) (w : World) (h : RatAt w g a k) (hal : a.natAbs < 2 ^ K) (hK : K ≤ 20000) (hk : k ≤ 20000) :
    Calls Tryd.prog 84 #[.pointer (some ⟨g, 0, none⟩)] w fun e w' => Below w.heap.size w w' ∧ ∃ ex, e = .returned (.tuple #[.float .f64 (fltW a k), .bool ex]) := by
  by_cases h0 : a = 0
  · subst h0
    rw [fltW_nil]
    exact float_nil g k w h
  · have hal2 := lt_pow_of (Nat.le_refl _) hal hK
    exact float_more g k a w h h0 hal2 hk

/-- What a product leaves: a ratio of which the nearest float is known. -/
def MulFlt (w : World) (g V : Nat) (e : Ending) (w' : World) : Prop :=
  e = .returned (.pointer (some ⟨g, 0, none⟩)) ∧ w.grownBy w' (some g) ∧ ∃ (a : Int) (k K : Nat), RatAt w' g a k ∧ fltW a k = V ∧ a.natAbs < 2 ^ K ∧ K ≤ 20000 ∧ k ≤ 20000

theorem large_mul (g gx gp : Nat) (m c : Int) (wq : World) (V : Nat) (hV : makeW (decide (m < 0)) m.natAbs c = V) (hz1 : At wq g 0 0) (hz2 : At wq g 2 0) (hm1 : -9223372036854775808 ≤ m) (hm2 : m ≤ 9223372036854775807) (c1 : -5000 ≤ c) (c2 : c ≤ 5000)
    (h1 : RatIs wq gx m 0) (h2 : RatIs wq gp ((2 ^ c.toNat : Nat) : Int) (-c).toNat) :
    Calls Tryd.prog 69 #[.pointer (some ⟨g, 0, none⟩), .pointer (some ⟨gx, 0, none⟩), .pointer (some ⟨gp, 0, none⟩)] wq (MulFlt wq g V) := by
  obtain ⟨r1, a2, j2, r2, e2, l2, l3, l4, p2, p3⟩ := made_bounds hm1 hm2 c1 c2 h1 h2
  have hprod := nat_lt_prod l4 l3
  refine (ratmul_z g gx gp 0 j2 0 0 m a2 wq hz1 hz2 r1 r2 (Nat.le_trans (wc_of_lt l4) (by omega)) (Nat.le_trans (wc_of_lt l3) (by omega)) (Nat.le_trans (wc_of_lt hprod) (by omega)) (by omega) (by omega)).mono ?_
  rintro e w' ⟨rfl, hg, a3, j3, r3, e3, l5, l6, n3, q3⟩
  have hexp : 64 + (c.toNat + 1) ≤ 20000 := by omega
  refine ⟨rfl, hg, a3, j3, _, r3, ?_, Nat.lt_of_le_of_lt l5 hprod, hexp, by omega⟩
  rw [made_end e2 e3 p2 n3 q3 p3, made_word m c c (by omega), hV]

/-- What stays behind each step: the format's second field, and what was there before. -/
def HeldF (w0 : World) (gb : Nat) (F : Int) (w : World) : Prop := w.cell? ⟨gb, 1, none⟩ = some (.int .i64 F) ∧ Below w0.heap.size w0 w
theorem HeldF.below {w0 w w' : World} {gb : Nat} {F : Int} (h : HeldF w0 gb F w) (hg : gb < w0.heap.size) (hb : Below w.heap.size w w') : HeldF w0 gb F w' :=
  ⟨(hb.cell (p := ⟨gb, 1, none⟩) (Nat.lt_of_lt_of_le hg h.2.size)).trans h.1, h.2.trans (hb.mono h.2.size)⟩
theorem HeldF.grown {w0 w w' : World} {gb g : Nat} {F : Int} (h : HeldF w0 gb F w) (hg : gb < w0.heap.size) (hb : w.grownBy w' (some g)) (hge : w0.heap.size ≤ g) : HeldF w0 gb F w' :=
  ⟨(World.cell?_of_block (a := ⟨gb, 1, none⟩) (hb.block gb (Nat.lt_of_lt_of_le hg h.2.size) (fun e => by injection e with e; omega))).trans h.1, h.2.trans (below_of_grown hb _ hge h.2.size)⟩

theorem bias_bounds (E : Nat) (h1 : 2 ≤ E) (h2 : E ≤ 8) : PL.biasOf E ≤ 127 ∧ 1 ≤ PL.biasOf E := by
  have p1 : 2 ^ (E - 1) ≤ 2 ^ 7 := PL.pow_bound _ _ (by omega)
  have p2 : 2 ^ 1 ≤ 2 ^ (E - 1) := PL.pow_bound _ _ (by omega)
  unfold PL.biasOf
  omega

theorem make_rung (m : Nat) (c : Int) (c1 : -5000 ≤ c) (c2 : c ≤ 5000) : makeW (decide ((m : Int) < 0)) (m : Int).natAbs c = PL.rungOf Ieee.double m c := by
  rw [decide_eq_false (by omega)]
  unfold makeW
  rw [if_neg (by simp), Nat.zero_add, show min (max c (-5000)) 5000 = c by omega]
  rfl

/-- The facts of the fields, as the walk of Large reads them. -/
structure Fields (b E F f x : Nat) (s : Bool) : Prop where
  am1 : bits .and .u64 (b : Int) (IntKind.u64.wrap (IntKind.u64.wrap (2 ^ F) - 1)) = (f : Int)
  am2 : bits .and .u64 ((b : Int) / 2 ^ F) (IntKind.u64.wrap (IntKind.u64.wrap (2 ^ E) - 1)) = (x : Int)
  hs : (((b : Int) / 2 ^ (E + F)) == 1) = s
  fb : f < 8388608
  xb : x < 256
theorem fields_of (b E F : Nat) (hb : b < 18446744073709551616) (hE1 : 2 ≤ E) (hE2 : E ≤ 8) (hF2 : F ≤ 23) : Fields b E F (fracP F b) (expP E F b) (negP E F b) := by
  have hF8 : 2 ^ F ≤ 2 ^ 23 := PL.pow_bound _ _ hF2
  have hfr : fracP F b < 2 ^ F := Nat.mod_lt _ (Nat.two_pow_pos F)
  have hE8 : 2 ^ E ≤ 2 ^ 8 := PL.pow_bound _ _ hE2
  have hex : expP E F b < 2 ^ E := Nat.mod_lt _ (Nat.two_pow_pos E)
  have hb2 : b / 2 ^ F < 18446744073709551616 := Nat.lt_of_le_of_lt (Nat.div_le_self _ _) hb
  refine ⟨and_mask b F hb (by omega), ?_, ?_, Nat.lt_of_lt_of_le hfr hF8, Nat.lt_of_lt_of_le hex hE8⟩
  · rw [pow_cast F, ← Int.natCast_ediv]
    exact and_mask (b / 2 ^ F) E hb2 (by omega)
  · unfold negP
    rw [pow_cast, ← Int.natCast_ediv, Bool.eq_iff_iff]
    simp only [beq_iff_eq, decide_eq_true_eq]
    omega

set_option maxRecDepth 100000 in
set_option maxHeartbeats 1000000 in
theorem large_nan (b E F : Nat) (w : World) (hb : b < 18446744073709551616) (hE1 : 2 ≤ E) (hE2 : E ≤ 8) (hF1 : 1 ≤ F) (hF2 : F ≤ 23) (hx : expP E F b = 2 ^ E - 1) (hf : fracP F b ≠ 0) :
    Calls Tryd.prog 28 #[.int .u64 b, .agg #[.int .i64 E, .int .i64 F]] w fun e w' => Below w.heap.size w w' ∧ e = .returned (.tuple #[.float .f64 0, .bool false]) := by
  obtain ⟨am1, am2, hs, hfb, hxb⟩ := fields_of b E F hb hE1 hE2 hF2
  have hB : wrap64 (wrap64 (2 ^ (E - 1)) - 1) = (PL.biasOf E : Int) := PL.wrap64_pow (E - 1) (by omega)
  have hT := PL.wrap64_pow E (by omega)
  have b0 : Below w.heap.size w (w.alloc (Obj.cells #[Value.int IntKind.i64 (E : Int), Value.int IntKind.i64 (F : Int)] 51)) := (Below.refl _ _).alloc (Nat.le_refl _) _
  rw [← hx] at hT
  clear hx
  generalize fracP F b = f at *
  generalize expP E F b = x at *
  generalize negP E F b = s at *
  generalize PL.biasOf E = Bi at *
  have hfz : ((f : Int) != 0) = true := by simp; omega
  go_enter Tryd.func28, Tryd.ntmps28
  go_wp2_with fail
  go_quiet (fail)
  go_wp2_with fail
  go_ret2
  exact ⟨below_drewN b0 nq, rfl⟩

set_option maxRecDepth 100000 in
set_option maxHeartbeats 1000000 in
theorem large_inf (b E F : Nat) (w : World) (hb : b < 18446744073709551616) (hE1 : 2 ≤ E) (hE2 : E ≤ 8) (hF1 : 1 ≤ F) (hF2 : F ≤ 23) (hx : expP E F b = 2 ^ E - 1) (hf : fracP F b = 0) :
    Calls Tryd.prog 28 #[.int .u64 b, .agg #[.int .i64 E, .int .i64 F]] w fun e w' => Below w.heap.size w w' ∧ e = .returned (.tuple #[.float .f64 ((if negP E F b then 9223372036854775808 else 0) + 9218868437227405312), .bool true]) := by
  obtain ⟨am1, am2, hs, hfb, hxb⟩ := fields_of b E F hb hE1 hE2 hF2
  have hB : wrap64 (wrap64 (2 ^ (E - 1)) - 1) = (PL.biasOf E : Int) := PL.wrap64_pow (E - 1) (by omega)
  have hT := PL.wrap64_pow E (by omega)
  have b0 : Below w.heap.size w (w.alloc (Obj.cells #[Value.int IntKind.i64 (E : Int), Value.int IntKind.i64 (F : Int)] 51)) := (Below.refl _ _).alloc (Nat.le_refl _) _
  rw [← hx] at hT
  obtain ⟨V, hVe⟩ : ∃ V, V = 9218868437227405312 := ⟨_, rfl⟩
  have CI := Lib.hid (fun w => inf_pos w)
  rw [← hVe] at CI ⊢
  have r1 := run_neg V (by omega)
  rw [show flip V = 9223372036854775808 + V by unfold flip; rw [if_pos (by omega)]; omega] at r1
  rw [hf] at am1
  clear hx hf hVe hfb
  generalize expP E F b = x at *
  generalize negP E F b = s at *
  generalize PL.biasOf E = Bi at *
  go_enter Tryd.func28, Tryd.ntmps28
  go_wp2_with fail
  go_quiet (fail)
  go_wp2_with fail
  refine (CI.out _).mono ?_
  rintro e w2 ⟨rfl, rfl⟩
  cases s
  · go_wp2_with fail
    go_ret2
    exact ⟨below_drewN b0 nq, by simp⟩
  · go_wp2_with fail
    go_ret2
    exact ⟨below_drewN b0 nq, by simp⟩
end Go.Proofs.YtjjfkidddjcdcaaDoor

namespace Go.Proofs.YtjjfkidddjcdcaaDoor
open Go.ChangeShapes Go.WideShapes Go.ChangeAt Go.RowKit

theorem rzero1_at {w : World} {g : Nat} (h : g = w.heap.size) : At (w.alloc (Obj.cells #[.bool false, .slice none 0 0, .bool false, .slice none 0 0] 103)) g 0 0 := by
  subst h; exact ratzero1 w
theorem rzero2_at {w : World} {g : Nat} (h : g = w.heap.size) : At (w.alloc (Obj.cells #[.bool false, .slice none 0 0, .bool false, .slice none 0 0] 103)) g 2 0 := by
  subst h; exact ratzero2 w
theorem RatIs.cast {w : World} {g g' k : Nat} {a : Int} (h : RatIs w g a k) (e : g' = g) : RatIs w g' a k := by subst e; exact h

theorem lead_wrapped (F f M : Nat) (hF : F ≤ 23) (hf : f < 8388608) (hM : 2 ^ F + f = M) : IntKind.i64.wrap ((f : Int) + IntKind.i64.wrap (2 ^ F)) = (M : Int) := by
  have h : 2 ^ F ≤ 2 ^ 23 := PL.pow_bound _ _ hF
  rw [pow_cast]
  generalize 2 ^ F = p at *
  rw [IntKind.wrap_i64, IntKind.wrap_i64]
  omega

set_option maxRecDepth 100000 in
set_option maxHeartbeats 4000000 in
theorem large_norm (b E F : Nat) (w : World) (hb : b < 18446744073709551616) (hE1 : 2 ≤ E) (hE2 : E ≤ 8) (hF1 : 1 ≤ F) (hF2 : F ≤ 23) (hx : 0 < expP E F b) (hx2 : expP E F b < 2 ^ E - 1) :
    Calls Tryd.prog 28 #[.int .u64 b, .agg #[.int .i64 E, .int .i64 F]] w fun e w' => Below w.heap.size w w' ∧ e = .returned (.tuple #[.float .f64 ((if negP E F b then 9223372036854775808 else 0) + PL.rungOf Ieee.double (2 ^ F + fracP F b) ((expP E F b : Int) - PL.biasOf E - F)), .bool true]) := by
  obtain ⟨am1, am2, hs, hfb, hxb⟩ := fields_of b E F hb hE1 hE2 hF2
  have hB : wrap64 (wrap64 (2 ^ (E - 1)) - 1) = (PL.biasOf E : Int) := PL.wrap64_pow (E - 1) (by omega)
  have hT := PL.wrap64_pow E (by omega)
  have hT3 := ne_cast (expP E F b) (2 ^ E - 1) hx2
  obtain ⟨B1, B2⟩ := bias_bounds E hE1 hE2
  have b0 : Below w.heap.size w (w.alloc (Obj.cells #[Value.int IntKind.i64 (E : Int), Value.int IntKind.i64 (F : Int)] 51)) := (Below.refl _ _).alloc (Nat.le_refl _) _
  obtain ⟨M, hM⟩ : ∃ M, 2 ^ F + fracP F b = M := ⟨_, rfl⟩
  have hMw := lead_wrapped F (fracP F b) M hF2 hfb hM
  have hMb : M < 33554432 := by
    have h : 2 ^ F ≤ 2 ^ 23 := PL.pow_bound _ _ hF2
    rw [← hM]
    omega
  rw [hM]
  clear hM hx2
  generalize negP E F b = s at *
  generalize fracP F b = f at *
  generalize expP E F b = x at *
  generalize 2 ^ E - 1 = T at *
  generalize PL.biasOf E = Bi at *
  have hmk := make_rung M ((x : Int) - Bi - F) (by omega) (by omega)
  obtain ⟨V, hV⟩ : ∃ V, PL.rungOf Ieee.double M ((x : Int) - Bi - F) = V := ⟨_, rfl⟩
  have hVb : V < 9223372036854775808 := hV ▸ rung_lt _ _
  rw [hV] at hmk ⊢
  have N83 : Hid (∀ w : World, Calls Tryd.prog 83 #[.int .i64 (IntKind.i64.wrap ((f : Int) + IntKind.i64.wrap (2 ^ F))), .int .i64 1] w fun e w' => e = .returned (.pointer (some ⟨w.heap.size, 0, none⟩)) ∧ Below w.heap.size w w' ∧ RatIs w' w.heap.size (M : Int) 0) := fun w => by
    rw [hMw]; exact newrat_z (M : Int) w (by omega) (by omega)
  obtain ⟨c, hc⟩ : ∃ c : Int, (x : Int) - Bi - F = c := ⟨_, rfl⟩
  have ew : IntKind.i64.wrap (IntKind.i64.wrap ((x : Int) - Bi) - F) = c := by
    rw [IntKind.wrap_i64, IntKind.wrap_i64]; omega
  have hcb : -5000 ≤ c ∧ c ≤ 5000 := by omega
  have P71 : Hid (∀ w : World, Calls Tryd.prog 71 #[.int .i64 (IntKind.i64.wrap (IntKind.i64.wrap ((x : Int) - Bi) - F))] w fun en w' => Below w.heap.size w w' ∧ ∃ g, en = .returned (.pointer (some ⟨g, 0, none⟩)) ∧ w.heap.size ≤ g ∧ RatIs w' g ((2 ^ c.toNat : Nat) : Int) (-c).toNat) := fun w => by
    rw [ew]; exact pow2_z c w (by omega) (by omega)
  rw [hc] at hmk
  have HM := Lib.hid (fun g gx gp wq h1 h2 h3 h4 => large_mul g gx gp (M : Int) c wq V hmk h1 h2 (by omega) (by omega) hcb.1 hcb.2 h3 h4)
  have r1 := run_neg V (by omega)
  rw [show flip V = 9223372036854775808 + V by unfold flip; rw [if_pos (by omega)]; omega] at r1
  have R1 := Lib.hid r1
  have HSg := Lib.hid hs
  clear r1 hmk hV ew hMw hMb hc hcb hs
  go_enter Tryd.func28, Tryd.ntmps28
  go_wp2_with fail
  go_quiet (fail)
  go_wp2_with fail
  try rw [hB]
  have hbx : Below w.heap.size w ((w.alloc (Obj.cells #[Value.int IntKind.i64 (E : Int), Value.int IntKind.i64 (F : Int)] 51)).drewN nq) := below_drewN b0 nq
  have hsz : w.heap.size < ((w.alloc (Obj.cells #[Value.int IntKind.i64 (E : Int), Value.int IntKind.i64 (F : Int)] 51)).drewN nq).heap.size := by
    show w.heap.size < (w.alloc _).heap.size
    simp
  have q1 : ((w.alloc (Obj.cells #[Value.int IntKind.i64 (E : Int), Value.int IntKind.i64 (F : Int)] 51)).drewN nq).cell? ⟨w.heap.size, 1, none⟩ = some (.int .i64 F) := by
    show (w.alloc _).cell? _ = _
    simp [go_sem]
  generalize (w.alloc (Obj.cells #[Value.int IntKind.i64 (E : Int), Value.int IntKind.i64 (F : Int)] 51)).drewN nq = wq at *
  have HBX := Lib.hid hbx
  clear hbx b0 am1 am2 hT hT3 hB
  generalize hgb : w.heap.size = gb at *
  have H0 : HeldF wq gb F wq.drew := ⟨q1, (Below.refl _ _).drew⟩
  clear q1 hE1 hE2 hF1 hx hxb hfb B1 B2 hb
  go_region_held3 (fun w' => w'.cell? ⟨gb, 1, none⟩ = some (.int .i64 F) ∧ Below wq.heap.size wq w') (first | exact H0 | exact HeldF.below (by assumption) hsz (below_new _ _) | exact HeldF.below (by assumption) hsz hb1 | exact HeldF.below (by assumption) hsz hb2 | exact HeldF.grown (by assumption) hsz hg3 (by first | omega | (simp; omega)) | exact HeldF.below (by assumption) hsz hb4) (first
    | (go_at_call 83; refine (N83.out _).mono ?_; rintro e w1 ⟨rfl, hb1, hx1⟩; have s1 : wq.heap.size ≤ w1.heap.size := (by have := hb1.size; first | omega | (simp at this; omega)); have s1b := hb1.size; try simp at s1b)
    | (go_at_call 71; refine (P71.out _).mono ?_; rintro e w2 ⟨hb2, gp, rfl, hgp, hp2⟩; have s2 : wq.heap.size ≤ w2.heap.size := (by have := hb2.size; first | omega | (simp at this; omega)); try simp at hgp)
    | (go_at_call 69; refine (HM.out _ _ _ _ ?hz1 ?hz2 ?hx ?hy).mono ?_; (case hz1 => (first | (with_reducible refine rzero1_at ?_; simp; done) | (with_reducible refine (rzero1_at ?_).below hb2; simp; done) | (with_reducible refine ((rzero1_at ?_).drew.below hb1).below hb2; simp; done) | (with_reducible refine ((rzero1_at ?_).below hb1).below hb2; simp; done))); (case hz2 => (first | (with_reducible refine rzero2_at ?_; simp; done) | (with_reducible refine (rzero2_at ?_).below hb2; simp; done) | (with_reducible refine ((rzero2_at ?_).drew.below hb1).below hb2; simp; done) | (with_reducible refine ((rzero2_at ?_).below hb1).below hb2; simp; done))); (case hx => (first | (with_reducible refine (hx1.cast ?_).below hb2; simp; done) | (with_reducible refine ((hx1.cast ?_).below (below_new _ _)).below hb2; simp; done) | (with_reducible refine ((hx1.cast ?_).below hb2).below (below_new _ _); simp; done))); (case hy => (first | (with_reducible exact hp2) | (with_reducible exact hp2.below (below_new _ _)))); rintro e w3 ⟨rfl, hg3, a3, j3, K3, r3, v3, l3, k3, j3b⟩)
    | (go_at_call 84; refine (float_any _ j3 K3 a3 _ r3 l3 k3 j3b).mono ?_; rw [v3]; rintro e w4 ⟨hb4, ex, rfl⟩))
  all_goals
    have HBF := Lib.hid (by assumption : HeldF wq gb F w4).2
    have hs := HSg.out
    have r1 := R1.out
    clear hb1 hb2 hg3 hb4 hx1 hp2 r3 v3 l3 HSg R1 N83 P71 HM
    cases s
  all_goals
    go_wp2_with fail
    go_ret2
    exact ⟨HBX.out.trans (HBF.out.mono (Nat.le_of_lt hsz)), by simp⟩
set_option maxRecDepth 100000 in
set_option maxHeartbeats 4000000 in
theorem large_sub (b E F : Nat) (w : World) (hb : b < 18446744073709551616) (hE1 : 2 ≤ E) (hE2 : E ≤ 8) (hF1 : 1 ≤ F) (hF2 : F ≤ 23) (hx : expP E F b = 0) :
    Calls Tryd.prog 28 #[.int .u64 b, .agg #[.int .i64 E, .int .i64 F]] w fun e w' => Below w.heap.size w w' ∧ e = .returned (.tuple #[.float .f64 ((if negP E F b then 9223372036854775808 else 0) + PL.rungOf Ieee.double (fracP F b) (1 - (PL.biasOf E : Int) - F)), .bool true]) := by
  obtain ⟨am1, am2, hs, hfb, hxb⟩ := fields_of b E F hb hE1 hE2 hF2
  have hB : wrap64 (wrap64 (2 ^ (E - 1)) - 1) = (PL.biasOf E : Int) := PL.wrap64_pow (E - 1) (by omega)
  have hT := PL.wrap64_pow E (by omega)
  have hT3 : ((0 : Int) == ((2 ^ E - 1 : Nat) : Int)) = false := by
    have h4 : 2 ^ 2 ≤ 2 ^ E := PL.pow_bound _ _ hE1
    exact ne_cast 0 (2 ^ E - 1) (by omega)
  obtain ⟨B1, B2⟩ := bias_bounds E hE1 hE2
  have b0 : Below w.heap.size w (w.alloc (Obj.cells #[Value.int IntKind.i64 (E : Int), Value.int IntKind.i64 (F : Int)] 51)) := (Below.refl _ _).alloc (Nat.le_refl _) _
  rw [hx] at am2
  clear hxb hx
  generalize negP E F b = s at *
  generalize fracP F b = M at *
  generalize 2 ^ E - 1 = T at *
  generalize PL.biasOf E = Bi at *
  have hmk := make_rung M (1 - (Bi : Int) - F) (by omega) (by omega)
  obtain ⟨V, hV⟩ : ∃ V, PL.rungOf Ieee.double M (1 - (Bi : Int) - F) = V := ⟨_, rfl⟩
  have hVb : V < 9223372036854775808 := hV ▸ rung_lt _ _
  rw [hV] at hmk ⊢
  have N83 : Hid (∀ w : World, Calls Tryd.prog 83 #[.int .i64 (M : Int), .int .i64 1] w fun e w' => e = .returned (.pointer (some ⟨w.heap.size, 0, none⟩)) ∧ Below w.heap.size w w' ∧ RatIs w' w.heap.size (M : Int) 0) := fun w => by
    exact newrat_z (M : Int) w (by omega) (by omega)
  obtain ⟨c, hc⟩ : ∃ c : Int, 1 - (Bi : Int) - F = c := ⟨_, rfl⟩
  have ew : IntKind.i64.wrap (IntKind.i64.wrap (1 - (Bi : Int)) - F) = c := by
    rw [IntKind.wrap_i64, IntKind.wrap_i64]; omega
  have hcb : -5000 ≤ c ∧ c ≤ 5000 := by omega
  have P71 : Hid (∀ w : World, Calls Tryd.prog 71 #[.int .i64 (IntKind.i64.wrap (IntKind.i64.wrap (1 - (Bi : Int)) - F))] w fun en w' => Below w.heap.size w w' ∧ ∃ g, en = .returned (.pointer (some ⟨g, 0, none⟩)) ∧ w.heap.size ≤ g ∧ RatIs w' g ((2 ^ c.toNat : Nat) : Int) (-c).toNat) := fun w => by
    rw [ew]; exact pow2_z c w (by omega) (by omega)
  rw [hc] at hmk
  have HM := Lib.hid (fun g gx gp wq h1 h2 h3 h4 => large_mul g gx gp (M : Int) c wq V hmk h1 h2 (by omega) (by omega) hcb.1 hcb.2 h3 h4)
  have r1 := run_neg V (by omega)
  rw [show flip V = 9223372036854775808 + V by unfold flip; rw [if_pos (by omega)]; omega] at r1
  have R1 := Lib.hid r1
  have HSg := Lib.hid hs
  clear r1 hmk hV ew hc hcb hs
  go_enter Tryd.func28, Tryd.ntmps28
  go_wp2_with fail
  go_quiet (fail)
  go_wp2_with fail
  try rw [hB]
  have hbx : Below w.heap.size w ((w.alloc (Obj.cells #[Value.int IntKind.i64 (E : Int), Value.int IntKind.i64 (F : Int)] 51)).drewN nq) := below_drewN b0 nq
  have hsz : w.heap.size < ((w.alloc (Obj.cells #[Value.int IntKind.i64 (E : Int), Value.int IntKind.i64 (F : Int)] 51)).drewN nq).heap.size := by
    show w.heap.size < (w.alloc _).heap.size
    simp
  have q1 : ((w.alloc (Obj.cells #[Value.int IntKind.i64 (E : Int), Value.int IntKind.i64 (F : Int)] 51)).drewN nq).cell? ⟨w.heap.size, 1, none⟩ = some (.int .i64 F) := by
    show (w.alloc _).cell? _ = _
    simp [go_sem]
  generalize (w.alloc (Obj.cells #[Value.int IntKind.i64 (E : Int), Value.int IntKind.i64 (F : Int)] 51)).drewN nq = wq at *
  have HBX := Lib.hid hbx
  clear hbx b0 am1 am2 hT hT3 hB
  generalize hgb : w.heap.size = gb at *
  have H0 : HeldF wq gb F wq.drew := ⟨q1, (Below.refl _ _).drew⟩
  clear q1 hE1 hE2 hF1 hfb B1 B2 hb
  go_region_held3 (fun w' => w'.cell? ⟨gb, 1, none⟩ = some (.int .i64 F) ∧ Below wq.heap.size wq w') (first | exact H0 | exact HeldF.below (by assumption) hsz (below_new _ _) | exact HeldF.below (by assumption) hsz hb1 | exact HeldF.below (by assumption) hsz hb2 | exact HeldF.grown (by assumption) hsz hg3 (by first | omega | (simp; omega)) | exact HeldF.below (by assumption) hsz hb4) (first
    | (go_at_call 83; refine (N83.out _).mono ?_; rintro e w1 ⟨rfl, hb1, hx1⟩; have s1 : wq.heap.size ≤ w1.heap.size := (by have := hb1.size; first | omega | (simp at this; omega)); have s1b := hb1.size; try simp at s1b)
    | (go_at_call 71; refine (P71.out _).mono ?_; rintro e w2 ⟨hb2, gp, rfl, hgp, hp2⟩; have s2 : wq.heap.size ≤ w2.heap.size := (by have := hb2.size; first | omega | (simp at this; omega)); try simp at hgp)
    | (go_at_call 69; refine (HM.out _ _ _ _ ?hz1 ?hz2 ?hx ?hy).mono ?_; (case hz1 => (first | (with_reducible refine rzero1_at ?_; simp; done) | (with_reducible refine (rzero1_at ?_).below hb2; simp; done) | (with_reducible refine ((rzero1_at ?_).drew.below hb1).below hb2; simp; done) | (with_reducible refine ((rzero1_at ?_).below hb1).below hb2; simp; done))); (case hz2 => (first | (with_reducible refine rzero2_at ?_; simp; done) | (with_reducible refine (rzero2_at ?_).below hb2; simp; done) | (with_reducible refine ((rzero2_at ?_).drew.below hb1).below hb2; simp; done) | (with_reducible refine ((rzero2_at ?_).below hb1).below hb2; simp; done))); (case hx => (first | (with_reducible refine (hx1.cast ?_).below hb2; simp; done) | (with_reducible refine ((hx1.cast ?_).below (below_new _ _)).below hb2; simp; done) | (with_reducible refine ((hx1.cast ?_).below hb2).below (below_new _ _); simp; done))); (case hy => (first | (with_reducible exact hp2) | (with_reducible exact hp2.below (below_new _ _)))); rintro e w3 ⟨rfl, hg3, a3, j3, K3, r3, v3, l3, k3, j3b⟩)
    | (go_at_call 84; refine (float_any _ j3 K3 a3 _ r3 l3 k3 j3b).mono ?_; rw [v3]; rintro e w4 ⟨hb4, ex, rfl⟩))
  all_goals
    have HBF := Lib.hid (by assumption : HeldF wq gb F w4).2
    have hs := HSg.out
    have r1 := R1.out
    clear hb1 hb2 hg3 hb4 hx1 hp2 r3 v3 l3 HSg R1 N83 P71 HM
    cases s
  all_goals
    go_wp2_with fail
    go_ret2
    exact ⟨HBX.out.trans (HBF.out.mono (Nat.le_of_lt hsz)), by simp⟩

theorem large_num (b E F : Nat) (w : World) (hb : b < 18446744073709551616) (hE1 : 2 ≤ E) (hE2 : E ≤ 8) (hF1 : 1 ≤ F) (hF2 : F ≤ 23) (hn : ¬ (expP E F b = 2 ^ E - 1 ∧ fracP F b ≠ 0)) :
    Calls Tryd.prog 28 #[.int .u64 b, .agg #[.int .i64 E, .int .i64 F]] w fun e w' => Below w.heap.size w w' ∧ e = .returned (.tuple #[.float .f64 (largeW E F b), .bool true]) := by
  have hex : expP E F b < 2 ^ E := Nat.mod_lt _ (Nat.two_pow_pos E)
  unfold largeW bodyP
  by_cases c1 : expP E F b = 2 ^ E - 1
  · rw [if_pos c1]
    have hf : fracP F b = 0 := by
      apply Classical.byContradiction; intro h; exact hn ⟨c1, h⟩
    exact large_inf b E F w hb hE1 hE2 hF1 hF2 c1 hf
  · rw [if_neg c1]
    by_cases c2 : 0 < expP E F b
    · rw [if_pos c2]
      exact large_norm b E F w hb hE1 hE2 hF1 hF2 c2 (by omega)
    · rw [if_neg c2]
      exact large_sub b E F w hb hE1 hE2 hF1 hF2 (by omega)
end Go.Proofs.YtjjfkidddjcdcaaDoor
