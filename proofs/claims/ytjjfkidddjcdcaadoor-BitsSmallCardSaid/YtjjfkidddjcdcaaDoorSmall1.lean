/- Proved here: the contract of the document's Small at this program. Conditions: as each theorem says. -/
import Derived.Test.YtjjfkidddjcdcaaDoorSmallQuo
import Derived.Test.YtjjfkidddjcdcaaDoorSmall0
import Derived.Test.YtjjfkidddjcdcaaDoorIntAdd
import Derived.Test.YtjjfkidddjcdcaaDoorNearInt
import Derived.Deep.RegionHeld3
import Derived.Deep.CutRange
namespace Go.Proofs.YtjjfkidddjcdcaaDoor
open Go.ChangeShapes Go.WideShapes Go.ChangeAt Go.RowKit

def PowQ (e : Int) (w : World) (en : Ending) (w' : World) : Prop := Below w.heap.size w w' ∧ ∃ g, en = .returned (.pointer (some ⟨g, 0, none⟩)) ∧ w.heap.size ≤ g ∧ RatIs w' g ((2 ^ e.toNat : Nat) : Int) (-e).toNat
theorem pow2_wrapped (e : Int) (w : World) (h1 : -20000 ≤ e) (h2 : e ≤ 20000) : Calls Tryd.prog 71 #[.int .i64 (IntKind.i64.wrap e)] w (PowQ e w) := by
  have : IntKind.i64.wrap e = e := by rw [IntKind.wrap_i64]; omega
  rw [this]
  exact pow2_z e w h1 h2
theorem below_step {w W w2 : World} (hb : Below W.heap.size W w2) (hW : Below w.heap.size w W) : Below w.heap.size w w2 := hW.trans (hb.mono hW.size)
theorem below_gstep {w W w2 : World} {g : Nat} (hg : W.grownBy w2 (some g)) (hW : Below w.heap.size w W) (hge : w.heap.size ≤ g) : Below w.heap.size w w2 := hW.trans (below_of_grown hg _ hge hW.size)



/-- What stays behind each step: the format's second field, and what was there before. -/
def HoldF (w0 : World) (gb : Nat) (F : Int) (w : World) : Prop := w.cell? ⟨gb, 1, none⟩ = some (.int .i64 F) ∧ Below w0.heap.size w0 w
theorem HoldF.below {w0 w w' : World} {gb : Nat} {F : Int} (h : HoldF w0 gb F w) (hg : gb < w0.heap.size) (hb : Below w.heap.size w w') : HoldF w0 gb F w' :=
  ⟨(hb.cell (p := ⟨gb, 1, none⟩) (Nat.lt_of_lt_of_le hg h.2.size)).trans h.1, h.2.trans (hb.mono h.2.size)⟩
theorem HoldF.grown {w0 w w' : World} {gb g : Nat} {F : Int} (h : HoldF w0 gb F w) (hg : gb < w0.heap.size) (hb : w.grownBy w' (some g)) (hge : w0.heap.size ≤ g) : HoldF w0 gb F w' :=
  ⟨(World.cell?_of_block (a := ⟨gb, 1, none⟩) (hb.block gb (Nat.lt_of_lt_of_le hg h.2.size) (fun e => by injection e with e; omega))).trans h.1, h.2.trans (below_of_grown hb _ hge h.2.size)⟩

theorem newint_wrapped (e B : Int) (X : Nat) (h : (X : Int) = e + B - 1) (h1 : -5000 ≤ e) (h2 : e ≤ 5000) (h3 : 0 ≤ B) (h4 : B ≤ 5000) (w : World) :
    Calls Tryd.prog 79 #[.int .i64 (IntKind.i64.wrap (IntKind.i64.wrap (e + B) - 1))] w fun en w' => Below w.heap.size w w' ∧ en = .returned (.pointer (some ⟨w.heap.size, 0, none⟩)) ∧ At w' w.heap.size 0 (X : Int) := by
  have : IntKind.i64.wrap (IntKind.i64.wrap (e + B) - 1) = X := by rw [IntKind.wrap_i64, IntKind.wrap_i64]; omega
  rw [this]
  exact newint_z X w (by omega) (by omega)
theorem lsh_wrapped (g gx F : Nat) (x : Int) (w : World) (hz : At w g 0 0) (hx : At w gx 0 x) (hs : wc x.natAbs ≤ 50000) (hF : F ≤ 23) :
    Calls Tryd.prog 78 #[.pointer (some ⟨g, 0, none⟩), .pointer (some ⟨gx, 0, none⟩), .int .u64 (IntKind.u64.wrap (F : Int))] w fun e w' => e = .returned (.pointer (some ⟨g, 0, none⟩)) ∧ Puts w w' g 0 (x * 2 ^ F) ∧ At w g 0 0 := by
  have : IntKind.u64.wrap (F : Int) = F := by rw [IntKind.wrap_u64]; omega
  rw [this]
  refine (lsh_z g 0 gx 0 F 0 x w hz hx hs (by omega)).mono ?_
  rintro e w' ⟨rfl, hP⟩
  exact ⟨rfl, hP, hz⟩

theorem wc_two {v : Nat} (h : v < 18446744073709551616) : wc v ≤ 50000 := by
  have h2 : wc v ≤ 2 := wc_le h
  omega
theorem zero_at {w : World} {g : Nat} (h : g = w.heap.size) : At (w.alloc (Obj.cells #[.bool false, .slice none 0 0] 101)) g 0 0 := by
  subst h; exact At.zero w
theorem At.cast {w : World} {g g' o : Nat} {z : Int} (h : At w g o z) (e : g' = g) : At w g' o z := by subst e; exact h
theorem HoldF.old {w0 w : World} {gb g o : Nat} {F z : Int} (h : HoldF w0 gb F w) (hz : At w0 g o z) : At w g o z := hz.below h.2
theorem sum_done {w0 v w : World} {gb g : Nat} {F z S : Int} (h : HoldF w0 gb F w) (hP : Puts v w g 0 z) (e : z = S) : Hid (Below w0.heap.size w0 w ∧ At w g 0 S) := ⟨h.2, e ▸ hP.at_⟩

set_option maxRecDepth 100000 in
set_option maxHeartbeats 4000000 in
theorem small_core (b E F : Nat) (w : World) (hbb : b < 18446744073709551616) (h0 : 0 < PL.rung b) (hr : PL.rung b < 9218868437227405312) (hE1 : 2 ≤ E) (hE2 : E ≤ 8) (hF1 : 1 ≤ F) (hF2 : F ≤ 23) :
    Calls Tryd.prog 27 #[.float .f64 b, .agg #[.int .i64 E, .int .i64 F]] w fun e w' => Below w.heap.size w w' ∧ e = .returned (.int .u64 (signW E F b + PL.rungOf (PL.fmt E F) (PL.mant (PL.rung b)) (PL.place (PL.rung b)) : Nat)) := by
  obtain ⟨p1, p2⟩ := sign_parts b hbb
  have r1 := run_neg b hbb
  have t1 := fun h => signW_true E F b h hE2 hF2
  have t2 := signW_false E F b
  have HOR := Lib.hid (fun v hv => signW_or E F b v hE2 hF2 hv)
  have C16 := Lib.hid (fun w => signbit_any b hbb w)
  generalize signW E F b = SG at *
  obtain ⟨s, hs⟩ : ∃ s, sgn b = s := ⟨_, rfl⟩
  rw [hs] at C16 t1 t2 p1 p2
  clear hs
  generalize PL.rung b = r at *
  have T1 := Lib.hid t1
  have T2 := Lib.hid t2
  have P1 := Lib.hid p1
  have P2 := Lib.hid p2
  clear t1 t2 p1 p2
  have hrb : r < 18446744073709551616 := by omega
  have hrr : PL.rung r = r := rung_small r (by omega)
  have hz := eq_zero r hrb
  rw [hrr, decide_eq_false (show ¬ r = 0 by omega)] at hz
  have C61 := Lib.hid (fun w => isinf_any r hrb w)
  rw [show infB r = false from decide_eq_false (by rw [hrr]; omega)] at C61
  have C65 := Lib.hid (fun w => frexp_any r hrb (by rw [hrr]; exact h0) (by rw [hrr]; exact hr) w)
  have hbp := big_place r h0 hr
  have hml : (PL.mant r).log2 < 53 := (PL.log2_lt_iff (PL.mant r) 53 (by have := mant_pos h0; omega)).2 (by show PL.mant r < 9007199254740992; unfold PL.mant; split <;> omega)
  have hpl : PL.place r ≤ 971 ∧ -1074 ≤ PL.place r := by unfold PL.place; omega
  have hB := PL.wrap64_pow (E - 1) (by omega)
  have hI := PL.word_inf E F hE1 (by omega) (by omega)
  have hBb : PL.biasOf E ≤ 127 ∧ 1 ≤ PL.biasOf E := by
    have p1 : 2 ^ (E - 1) ≤ 2 ^ 7 := PL.pow_bound _ _ (by omega)
    have p2 : 2 ^ 1 ≤ 2 ^ (E - 1) := PL.pow_bound _ _ (by omega)
    unfold PL.biasOf
    omega
  have hB' : wrap64 (wrap64 (2 ^ (E - 1)) - 1) = (PL.biasOf E : Int) := hB
  obtain ⟨ep, hep⟩ : ∃ ep : Int, max (bigE r + 52) (1 - (PL.biasOf E : Int)) = ep := ⟨_, rfl⟩
  have hlast : lastP E F r = ep - F := by unfold lastP; rw [← hbp, hep]
  have hepb : -126 ≤ ep ∧ ep ≤ 1024 := by omega
  obtain ⟨X, hX⟩ : ∃ X : Nat, (X : Int) = ep + PL.biasOf E - 1 := ⟨(ep + PL.biasOf E - 1).toNat, by omega⟩
  have HW := Lib.hid (small_word E F r (by have := mant_pos h0; omega) X (by rw [hlast]; omega))
  have HU := Lib.hid (units_le E F r)
  have HQ := Lib.hid (fun g gx gy wq h1 h2 hx hy => small_quo g gx gy E F r (ep - F) wq h1 h2 hr hlast (by omega) (by omega) hx hy)
  have R75 := Lib.hid (fun w' => rat_pos r w' hr)
  have P71 := Lib.hid (fun w' => pow2_wrapped (ep - F) w' (by omega) (by omega))
  have hG : -1100 ≤ bigE r + 53 ∧ bigE r + 53 ≤ 1100 := by omega
  rw [show bigE r + 52 = bigE r + 53 - 1 by omega] at hep
  have HEp := Lib.hid hep
  have HVlt := Lib.hid (rung_lt_fmt E F (PL.mant r) (PL.place r))
  have N79 := Lib.hid (fun w => newint_wrapped ep (PL.biasOf E) X hX (by omega) (by omega) (by omega) (by omega) w)
  have hXb : X ≤ 1200 := by omega
  clear hB hbp hml hpl hrr hlast hX hep hr h0
  generalize PL.rungOf (PL.fmt E F) (PL.mant r) (PL.place r) = V at *
  generalize PL.biasOf E = Bi at *
  generalize bigE r + 53 = G at *
  generalize unitsP E F r = U at *
  have HIlt := Lib.hid (inf_lt_fmt E F)
  obtain ⟨Inf, hInf⟩ : ∃ I, (2 ^ E - 1) * 2 ^ F = I := ⟨_, rfl⟩
  rw [hInf] at hI HW HIlt
  have hIb : Inf < 2147483648 * 2 := by
    rw [← hInf]
    have p1 : 2 ^ E ≤ 2 ^ 8 := PL.pow_bound _ _ hE2
    have p2 : 2 ^ F ≤ 2 ^ 23 := PL.pow_bound _ _ hF2
    have : (2 ^ E - 1) * 2 ^ F ≤ 2 ^ 8 * 2 ^ 23 := Nat.mul_le_mul (by omega) p2
    omega
  have hSb : X * 2 ^ F + U < 18446744073709551616 := by
    have p2 : 2 ^ F ≤ 2 ^ 23 := PL.pow_bound _ _ hF2
    have p3 : 2 ^ (F + 1) ≤ 2 ^ 24 := PL.pow_bound _ _ (by omega)
    have h1 : X * 2 ^ F ≤ 1200 * 2 ^ 23 := Nat.mul_le_mul hXb p2
    have := HU.out
    omega
  obtain ⟨Sm, hSm⟩ : ∃ S, X * 2 ^ F + U = S := ⟨_, rfl⟩
  have HSm : Hid ((U : Int) + (X : Int) * 2 ^ F = (Sm : Int)) := by
    show _ = _
    rw [← hSm, pow_cast]
    push_cast
    omega
  rw [hSm] at HW hSb
  clear hInf hSm
  have HUb : Hid (U < 18446744073709551616) := by
    have p3 : 2 ^ (F + 1) ≤ 2 ^ 24 := PL.pow_bound _ _ (by omega)
    have := HU.out
    show _ < _
    omega
  clear HU
  go_enter Tryd.func27, Tryd.ntmps27
  go_wp2_with fail
  refine (C16.out _).mono ?_
  rintro e wa ⟨rfl, rfl⟩
  go_upto_if 14 with fail
  go_cut [0, 5] from 13 to 22 (fun s0 s5 wx => s0 = .float .f64 r ∧ s5 = .int .u64 SG ∧ (w.alloc (Obj.cells #[Value.int IntKind.i64 (E : Int), Value.int IntKind.i64 (F : Int)] 51)) = wx)
  case first =>
    cases s
    · have e1 := P1.out rfl
      have e2 := T2.out rfl
      subst e1 e2
      go_wp2_with fail
      go_meet
      exact ⟨rfl, rfl, rfl⟩
    · have e1 := P2.out rfl
      have e2 := T1.out rfl
      rw [e1] at r1
      go_wp2_with fail
      go_meet
      exact ⟨rfl, rfl, rfl⟩
  case rest =>
  obtain ⟨rfl, rfl, rfl⟩ := hcut
  clear r1 P1 P2 T1 T2 C16
  go_wp2_with fail
  go_quiet (fail)
  go_wp2_with fail
  refine (C61.out _).mono ?_
  rintro e wb ⟨rfl, rfl⟩
  go_wp2_with fail
  refine (C65.out _).mono ?_
  rintro e wb ⟨rfl, rfl⟩
  have hbx : Below w.heap.size w ((w.alloc (Obj.cells #[Value.int IntKind.i64 (E : Int), Value.int IntKind.i64 (F : Int)] 51)).drewN nq) := below_drewN (below_new w _) nq
  have hsz : w.heap.size < ((w.alloc (Obj.cells #[Value.int IntKind.i64 (E : Int), Value.int IntKind.i64 (F : Int)] 51)).drewN nq).heap.size := by
    show w.heap.size < (w.alloc _).heap.size
    simp
  have q1 : ((w.alloc (Obj.cells #[Value.int IntKind.i64 (E : Int), Value.int IntKind.i64 (F : Int)] 51)).drewN nq).cell? ⟨w.heap.size, 1, none⟩ = some (.int .i64 F) := by
    show (w.alloc _).cell? _ = _
    simp [go_sem]
  go_upto_if 55 with fail
  go_cut [9] from 13 to 57 (fun s9 wx => s9 = .int .i64 ep ∧ ((w.alloc (Obj.cells #[Value.int IntKind.i64 (E : Int), Value.int IntKind.i64 (F : Int)] 51)).drewN nq) = wx)
  case first =>
    have hep := HEp.out
    go_wp2_with fail
    all_goals (go_meet; exact ⟨int_cast_eq (by omega), rfl⟩)
  case rest =>
  obtain ⟨wq, rfl⟩ : ∃ wq, wq = wc := ⟨_, rfl⟩
  obtain ⟨rfl, hwx⟩ := hcut
  rw [hwx] at hbx hsz q1
  clear hwx C61 C65 hz
  generalize hgb : w.heap.size = gb at *
  have hd : Below wq.heap.size wq wq.drew := (Below.refl _ wq).drew
  have hA : Below wq.heap.size wq (wq.alloc (Obj.cells #[.bool false, .slice none 0 0, .bool false, .slice none 0 0] 103)).drew := (below_new wq _).drew
  have z1A := (ratzero1 wq).drew
  have z2A := (ratzero2 wq).drew
  have qA : (wq.alloc (Obj.cells #[.bool false, .slice none 0 0, .bool false, .slice none 0 0] 103)).drew.cell? ⟨gb, 1, none⟩ = some (.int .i64 F) := (hA.cell (p := ⟨gb, 1, none⟩) hsz).trans q1
  have HD := Lib.hid hd
  have HA := Lib.hid hA
  have HZ1A := Lib.hid z1A
  have HZ2A := Lib.hid z2A
  have HQ1 := Lib.hid q1
  have HSZ : Hid ((wq.alloc (Obj.cells #[.bool false, .slice none 0 0, .bool false, .slice none 0 0] 103)).drew.heap.size = wq.heap.size + 1) := by show (wq.alloc _).heap.size = _; simp
  clear hd hA z1A z2A
  go_upto_region 15 with fail
  go_cut [10] from 13 to 94 (fun s10 wx => ∃ g, s10 = .pointer (some ⟨g, 0, none⟩) ∧ Hid (Below wq.heap.size wq wx ∧ ∃ a3 j3 : Nat, RatAt wx g (a3 : Int) j3 ∧ PL.rneG a3 (2 ^ j3) = U ∧ Go.Proofs.YtjjfkidddjcdcaaDoor.wc a3 ≤ 1000 ∧ j3 ≤ 10000))
  case first => as_aux_lemma =>
    go_region_with (first | (go_at_call 75; refine (R75.out _).mono ?_; rintro e w1 ⟨rfl, hb1, hr1⟩; (try rw [HSZ.out] at hr1); have b1 : Below wq.heap.size wq w1 := below_step hb1 (by first | exact HA.out | exact HD.out); have q2 : w1.cell? ⟨gb, 1, none⟩ = some (.int .i64 F) := (b1.cell (p := ⟨gb, 1, none⟩) hsz).trans HQ1.out; have q3 : (w1.alloc (Obj.cells #[.bool false, .slice none 0 0, .bool false, .slice none 0 0] 103)).cell? ⟨gb, 1, none⟩ = some (.int .i64 F) := ((b1.alloc b1.size _).cell (p := ⟨gb, 1, none⟩) hsz).trans HQ1.out) | (go_at_call 71; refine (P71.out _).mono ?_; rintro e w2 ⟨hb2, gp, rfl, hgp, hr2⟩; have b2 : Below wq.heap.size wq w2 := below_step hb2 (by first | exact b1 | exact b1.alloc b1.size _)) | (go_at_call 74; refine (HQ.out _ _ _ _ (by first | exact (HZ1A.out.below hb1).below hb2 | exact (ratzero1 w1).below hb2 | exact ratzero1 w2) (by first | exact (HZ2A.out.below hb1).below hb2 | exact (ratzero2 w1).below hb2 | exact ratzero2 w2) (by first | exact hr1.below hb2 | exact (hr1.below (below_new w1 _)).below hb2 | exact (hr1.below hb2).below (below_new w2 _)) (by first | exact hr2 | exact hr2.below (below_new w2 _))).mono ?_; rintro e w3 ⟨rfl, hg3, hq3⟩; have b3 : Below wq.heap.size wq w3 := below_gstep hg3 (by first | exact b2 | exact b2.alloc b2.size _) (by first | exact Nat.le_refl _ | exact b1.size | exact b2.size)))
    all_goals (go_wp2_with fail; go_meet; exact ⟨_, rfl, b3, hq3⟩)
  case rest =>
  obtain ⟨w3, rfl⟩ : ∃ w3, w3 = wc := ⟨_, rfl⟩
  obtain ⟨g, rfl, hH⟩ := hcut
  clear HQ R75 P71 HZ1A HZ2A HA HD qA
  go_wp2_with fail
  obtain ⟨hb3, a3, j3, hr3, hu, l1, l2⟩ := hH.out
  have CN := Lib.hid (nearint_z g a3 j3 w3 hr3 (by omega) (by omega))
  rw [hu] at CN
  clear hH hr3 hu l1 l2
  refine CN.out.mono ?_
  rintro e w4 ⟨hb4, gz, rfl, hz4⟩
  have b4 := hb3.trans (hb4.mono hb3.size)
  have q4 : w4.cell? ⟨gb, 1, none⟩ = some (.int .i64 F) := (b4.cell (p := ⟨gb, 1, none⟩) hsz).trans HQ1.out
  have hsz4 : gb < w4.heap.size := Nat.lt_of_lt_of_le hsz b4.size
  have HB4 := Lib.hid (hbx.trans (b4.mono (by omega)))
  clear CN hb3 hb4 b4 HQ1 q1 hbx hsz HSZ HEp
  have HZ4 := Lib.hid hz4
  clear hz4
  go_upto_region 17 with fail
  go_cut [12] from 13 to 94 (fun s12 wx => ∃ g, s12 = .pointer (some ⟨g, 0, none⟩) ∧ Hid (Below w4.heap.size w4 wx ∧ At wx g 0 (Sm : Int)))
  case first => as_aux_lemma =>
    have H0 : HoldF w4 gb F w4.drew := ⟨q4, (Below.refl _ _).drew⟩
    have hX0 : (0 : Int) ≤ (X : Int) * 2 ^ F := Int.mul_nonneg (by omega) (Int.le_of_lt (Int.pow_pos (by omega)))
    have HX0 := Lib.hid hX0
    have HWX : Hid (Go.Proofs.YtjjfkidddjcdcaaDoor.wc (X : Int).natAbs ≤ 50000) := wc_two (show (X : Int).natAbs < 18446744073709551616 by omega)
    have HWU : Hid (Go.Proofs.YtjjfkidddjcdcaaDoor.wc (U : Int).natAbs ≤ 50000) := wc_two (show (U : Int).natAbs < 18446744073709551616 by have := HUb.out; omega)
    have HWS : Hid (Go.Proofs.YtjjfkidddjcdcaaDoor.wc ((X : Int) * 2 ^ F).natAbs ≤ 50000) := wc_two (show ((X : Int) * 2 ^ F).natAbs < 18446744073709551616 by have := HSm.out; omega)
    have HH := Lib.hid hF2
    clear hX0 hSb hIb hI hB' hG hepb
    go_region_held3 (fun w' => w'.cell? ⟨gb, 1, none⟩ = some (.int .i64 F) ∧ Below w4.heap.size w4 w') (first | exact H0 | exact HoldF.below (by assumption) hsz4 (below_new _ _) | exact HoldF.below (by assumption) hsz4 hb1 | exact HoldF.grown (by assumption) hsz4 hP2.grown (by first | omega | (simp; omega)) | exact HoldF.grown (by assumption) hsz4 hP3.grown (by first | omega | (simp; omega))) (first
      | (go_at_call 79; refine (N79.out _).mono ?_; rintro e w1 ⟨hb1, rfl, hx1⟩; have s1 : w4.heap.size ≤ w1.heap.size := (by have := hb1.size; first | omega | (simp at this; omega)); have s1b := hb1.size; try simp at s1b)
      | (go_at_call 78; refine (lsh_wrapped _ _ F X _ ?hz ?hx HWX.out HH.out).mono ?_; (case hz => (first | (with_reducible refine (zero_at ?_); simp; done) | (with_reducible refine ((zero_at ?_).below (below_new _ _)); simp; done) | (with_reducible refine ((zero_at ?_).drew.below hb1); simp; done) | (with_reducible refine (((zero_at ?_).below (below_new _ _)).drew.below hb1); simp; done) | (with_reducible refine (((zero_at ?_).drew.below hb1).below (below_new _ _)); simp; done))); (case hx => (first | (with_reducible refine hx1.cast ?_; simp; done) | (with_reducible refine (hx1.cast ?_).below (below_new _ _); simp; done) | (with_reducible refine ((hx1.cast ?_).below (below_new _ _)).below (below_new _ _); simp; done))); rintro e w2 ⟨rfl, hP2, hz2⟩; have s2 : w4.heap.size ≤ w2.heap.size := (by have := hP2.grown.size; first | omega | (simp at this; omega)))
      | (go_at_call 77; refine (add_z _ 0 gz 0 _ 0 0 U ((X : Int) * 2 ^ F) _ ?hz ?hx ?hy ?h0 HX0.out HWU.out HWS.out).mono ?_; (case hz => (first | (with_reducible refine zero_at ?_; simp; done) | (with_reducible refine At.put (zero_at ?_) hz2 hP2 ?_ <;> first | (simp; done) | omega) | (with_reducible refine At.put ((zero_at ?_).below (below_new _ _)) hz2 hP2 ?_ <;> first | (simp; done) | omega) | (with_reducible refine At.put ((zero_at ?_).drew.below hb1) hz2 hP2 ?_ <;> first | (simp; done) | omega) | (with_reducible refine At.put (((zero_at ?_).below (below_new _ _)).drew.below hb1) hz2 hP2 ?_ <;> first | (simp; done) | omega) | (with_reducible refine At.put (((zero_at ?_).drew.below hb1).below (below_new _ _)) hz2 hP2 ?_ <;> first | (simp; done) | omega))); (case hx => (exact HoldF.old (by assumption) HZ4.out)); (case hy => (first | (with_reducible exact hP2.at_) | (with_reducible exact hP2.at_.below (below_new _ _)))); (case h0 => omega); rintro e w3 ⟨rfl, hP3⟩))
    all_goals (go_wp2_with fail; go_meet; exact ⟨_, rfl, sum_done (by assumption) hP3 HSm.out⟩)
  case rest =>
  obtain ⟨w5, rfl⟩ : ∃ w5, w5 = wc := ⟨_, rfl⟩
  obtain ⟨gs, rfl, hH⟩ := hcut
  obtain ⟨b5, hs5⟩ := hH.out
  have HB5 := Lib.hid (HB4.out.trans (b5.mono (by have := HB4.out.size; omega)))
  have hbn := below_new w5 (Obj.cells #[.bool false, .slice none 0 0] 101)
  have HBn := Lib.hid hbn
  have hs6 := Lib.hid (hs5.below hbn)
  have C81 := Lib.hid (setuint_z w5.heap.size 0 Inf 0 (w5.alloc (Obj.cells #[.bool false, .slice none 0 0] 101)) (At.zero w5) (by omega))
  have hlt5 := hs5.lt
  have HS5 := Lib.hid hs5
  clear hH b5 hs5 hbn N79 HB4 HZ4 q4 HSm HUb
  go_wp2_with fail
  refine C81.out.mono ?_
  rintro e w6 ⟨rfl, hP⟩
  obtain ⟨b6, i6⟩ := new_put hP
  have s6 := HS5.out.below b6
  have HB6 := Lib.hid (HB5.out.trans (b6.mono (by have := HB5.out.size; omega)))
  have C80 := Lib.hid (cmp_z gs 0 w5.heap.size 0 (Sm : Int) (Inf : Int) w6 s6 i6 (by omega) (by omega) (wc_two (show (Sm : Int).natAbs < 18446744073709551616 by omega)) (wc_two (show (Inf : Int).natAbs < 18446744073709551616 by omega)))
  rw [Int.natAbs_natCast, Int.natAbs_natCast] at C80
  have C82 := Lib.hid (fun w7 (hb : Below w6.heap.size w6 w7) => uint_z gs 0 (Sm : Int) w7 (s6.below hb) (by omega))
  rw [Int.natAbs_natCast] at C82
  clear hP i6 s6 b6 C81 HBn hs6 HS5 HB5
  have hW := HW.out
  have hvl := HVlt.out
  have o1 := HOR.out Inf HIlt.out
  by_cases hlt : Sm < Inf
  · rw [show cmpN Sm Inf = -1 from if_pos hlt] at C80
    obtain rfl : V = Sm := by omega
    have o2 := HOR.out V hvl
    clear hW hvl HOR HVlt HIlt HW hlt
    go_wp2_with fail
    refine C80.out.mono ?_
    rintro e w7 ⟨hb7, rfl⟩
    have HB7 := Lib.hid (HB6.out.trans (hb7.mono (by have := HB6.out.size; omega)))
    have C82' := Lib.hid (C82.out w7 hb7)
    clear hb7 C82
    go_wp2_with fail
    refine C82'.out.mono ?_
    rintro e w8 ⟨rfl, rfl⟩
    go_wp2_with fail
    go_ret
    exact ⟨by rw [hgb]; exact HB7.out, rfl⟩
  · obtain ⟨c, hc, hc0⟩ : ∃ c, cmpN Sm Inf = c ∧ (c = 0 ∨ c = 1) := by
      unfold cmpN
      rw [if_neg hlt]
      by_cases h2 : Inf < Sm
      · exact ⟨1, if_pos h2, .inr rfl⟩
      · exact ⟨0, if_neg h2, .inl rfl⟩
    rw [hc] at C80
    obtain rfl : V = Inf := by omega
    clear hW hvl HOR HVlt HIlt HW hlt hc
    rcases hc0 with rfl | rfl
    all_goals
      go_wp2_with fail
      refine C80.out.mono ?_
      rintro e w7 ⟨hb7, rfl⟩
      have HB7 := Lib.hid (HB6.out.trans (hb7.mono (by have := HB6.out.size; omega)))
      go_wp2_with fail
      go_ret
      exact ⟨by rw [hgb]; exact HB7.out, rfl⟩
end Go.Proofs.YtjjfkidddjcdcaaDoor
