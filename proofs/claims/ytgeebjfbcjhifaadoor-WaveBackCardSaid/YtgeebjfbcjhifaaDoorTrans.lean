/- Proved here: package wave's Transform of 1, 2, 3, 4 at this program. Conditions: math's two rows of numbers are as the program's text lays them. -/
import Derived.Test.YtgeebjfbcjhifaaDoorCWheel
import Derived.Test.YtgeebjfbcjhifaaDoorLdx
namespace Go.Proofs.YtgeebjfbcjhifaaDoor
open Go.ChangeShapes Go.WideShapes Go.ChangeAt Go.RowKit

/-- The floats 1, 2, 3, 4. -/
def fv (i : Nat) : Nat := if i = 0 then 4607182418800017408 else if i = 1 then 4611686018427387904 else if i = 2 then 4613937818241073152 else 4616189618054758400
/-- Their sums 0, 1, 3, 6, 10. -/
def sm (i : Nat) : Nat := if i = 0 then 0 else if i = 1 then 4607182418800017408 else if i = 2 then 4613937818241073152 else if i = 3 then 4618441417868443648 else 4621819117588971520
def l4 (i : Nat) : Cx := (fv i, 0)
theorem fv_facts : ∀ i, i < 4 → floatBits .sub .f64 (fv i) (fv i) = some 0 ∧ (FloatKind.f64.format.order (fv i) 6103021453049119613 == some .gt) = false ∧ floatBits .add .f64 (sm i) (fv i) = some (sm (i + 1)) ∧ floatBits .add .f64 (sm (i + 1)) 0 = some (sm (i + 1)) ∧ fv i < 9223372036854775808 := by decide +kernel
theorem zero_facts : floatBits .sub .f64 0 0 = some 0 ∧ (FloatKind.f64.format.order 0 6103021453049119613 == some .gt) = false ∧ (FloatKind.f64.format.order 0 0 != some .eq) = false := by decide +kernel

theorem ok_l4 : okC false 2 4 l4 := by unfold okC; decide +kernel
theorem zero_cells : ∀ i, i < 67 → (Tryd.zeroCells62)[i]? = some (if i = 0 then .int .u32 0 else if i = 1 then .int .i32 0 else if i = 2 then .int .u32 0 else .complex .f64 0 0) := by
  intro i hi
  match i, hi with
  | 0, _ => rfl
  | 1, _ => rfl
  | 2, _ => rfl
  | 3, _ => rfl
  | 4, _ => rfl
  | 5, _ => rfl
  | 6, _ => rfl
  | 7, _ => rfl
  | 8, _ => rfl
  | 9, _ => rfl
  | 10, _ => rfl
  | 11, _ => rfl
  | 12, _ => rfl
  | 13, _ => rfl
  | 14, _ => rfl
  | 15, _ => rfl
  | 16, _ => rfl
  | 17, _ => rfl
  | 18, _ => rfl
  | 19, _ => rfl
  | 20, _ => rfl
  | 21, _ => rfl
  | 22, _ => rfl
  | 23, _ => rfl
  | 24, _ => rfl
  | 25, _ => rfl
  | 26, _ => rfl
  | 27, _ => rfl
  | 28, _ => rfl
  | 29, _ => rfl
  | 30, _ => rfl
  | 31, _ => rfl
  | 32, _ => rfl
  | 33, _ => rfl
  | 34, _ => rfl
  | 35, _ => rfl
  | 36, _ => rfl
  | 37, _ => rfl
  | 38, _ => rfl
  | 39, _ => rfl
  | 40, _ => rfl
  | 41, _ => rfl
  | 42, _ => rfl
  | 43, _ => rfl
  | 44, _ => rfl
  | 45, _ => rfl
  | 46, _ => rfl
  | 47, _ => rfl
  | 48, _ => rfl
  | 49, _ => rfl
  | 50, _ => rfl
  | 51, _ => rfl
  | 52, _ => rfl
  | 53, _ => rfl
  | 54, _ => rfl
  | 55, _ => rfl
  | 56, _ => rfl
  | 57, _ => rfl
  | 58, _ => rfl
  | 59, _ => rfl
  | 60, _ => rfl
  | 61, _ => rfl
  | 62, _ => rfl
  | 63, _ => rfl
  | 64, _ => rfl
  | 65, _ => rfl
  | 66, _ => rfl
  | n + 67, h => exact absurd h (by omega)
theorem zero_tab (w : World) : (w.alloc (Obj.cells Tryd.zeroCells62 62)).rowIs w.heap.size 62 67 (tabS (.int .u32 0) (.int .i32 0) (.int .u32 0) 0) :=
  World.rowIs_alloc w Tryd.zeroCells62 62 _ fun i hi => by
    rw [zero_cells i hi]
    unfold tabS
    by_cases h0 : i = 0
    · rw [if_pos h0, if_pos h0]
    · rw [if_neg h0, if_neg h0]
      by_cases h1 : i = 1
      · rw [if_pos h1, if_pos h1]
      · rw [if_neg h1, if_neg h1]
        by_cases h2 : i = 2
        · rw [if_pos h2, if_pos h2]
        · rw [if_neg h2, if_neg h2, if_neg (by omega)]

set_option maxRecDepth 100000 in
set_option maxHeartbeats 8000000 in
theorem trans_any (c : Nat) (A : Option Addr) (w : World) (hA : CRow w A 4 l4) (hS : Sincos w) :
    Calls Tryd.prog 9 #[.slice A 4 c, .bool false] w fun e w' => ∃ D, e = .returned (.tuple #[.slice (some ⟨D, 0, none⟩) 4 4, .float .f64 4412964684869664768, .agg #[.int .i64 0, .int .i64 0]]) ∧ w.heap.size ≤ D ∧ Below w.heap.size w w' ∧ CNums w' D 4 (wheelC false 2 l4) := by
  obtain ⟨b, off, rfl, hbl, hcl⟩ := hA (by omega)
  have HA := Lib.hid hA
  have HCL := Lib.hid hcl
  have HS := Lib.hid hS
  have CL := fun w => length_any 4 w (by omega)
  rw [show isLen 4 = true from rfl] at CL
  have HLN := Lib.hid CL
  have hnot : ∀ (x : Bool) (w : World), (Op.unary .not (.bool x)).run Tryd.prog w = .ok (.bool (!x)) w := fun _ _ => rfl
  clear CL hA hcl hS
  go_enter Tryd.func9, Tryd.ntmps9
  go_wp2_with (go_at_call 11; refine (HLN.out _).mono ?_; rintro e w' ⟨rfl, rfl⟩)
  have HB1 := Lib.hid (((Below.refl w.heap.size w).alloc (Nat.le_refl _) (Obj.cells #[.bool false] 4)).alloc (by simp) (Obj.cells #[.int .i64 0, .int .i64 0] 26))
  have HW3 : Hid (Whole ((w.alloc (Obj.cells #[.bool false] 4)).alloc (Obj.cells #[.int .i64 0, .int .i64 0] 26)) w.heap.size 4 #[.bool false]) := Lib.hid ((Whole.new _ _ _ _ rfl).alloc _)
  have HW6 : Hid (Whole ((w.alloc (Obj.cells #[.bool false] 4)).alloc (Obj.cells #[.int .i64 0, .int .i64 0] 26)) (w.heap.size + 1) 26 #[.int .i64 0, .int .i64 0]) := Lib.hid (Whole.new _ _ _ _ (by simp))
  clear hnot HLN
  generalize (w.alloc (Obj.cells #[.bool false] 4)).alloc (Obj.cells #[.int .i64 0, .int .i64 0] 26) = W1 at *
  go_loopg [7, 23] 4 (fun gk v7 v23 wr => ∃ i : Nat, gk + i = 4 ∧ v23 = .int .i64 (i : Nat) ∧ v7 = .float .f64 (sm i) ∧ Below W1.heap.size W1 wr)
  case atStart => exact ⟨0, by omega, rfl, rfl, Below.refl _ _⟩
  case round =>
    obtain ⟨i, hi, rfl, rfl, hbe⟩ := hrel
    have HBE := Lib.hid hbe
    clear hbe
    rcases gk with _ | g
    · obtain rfl : i = 4 := by omega
      go_wp2_with fail
      have HB5 := Lib.hid ((HBE.out.alloc HBE.out.size (Obj.cells Tryd.zeroCells62 62)).alloc (by have := HBE.out.size; simp; omega) (Obj.cells #[.pointer (some ⟨wr.heap.size, 0, none⟩)] 47))
      have HT5 := Lib.hid (World.rowIs.alloc (zero_tab wr) (Obj.cells #[.pointer (some ⟨wr.heap.size, 0, none⟩)] 47))
      have HP5 : Hid (Whole ((wr.alloc (Obj.cells Tryd.zeroCells62 62)).alloc (Obj.cells #[.pointer (some ⟨wr.heap.size, 0, none⟩)] 47)) (wr.heap.size + 1) 47 #[.pointer (some ⟨wr.heap.size, 0, none⟩)]) := Lib.hid (Whole.new _ _ _ _ (by simp))
      have hT : W1.heap.size ≤ wr.heap.size := HBE.out.size
      have hz5 : ((wr.alloc (Obj.cells Tryd.zeroCells62 62)).alloc (Obj.cells #[.pointer (some ⟨wr.heap.size, 0, none⟩)] 47)).heap.size = wr.heap.size + 2 := by simp
      clear HBE
      generalize (wr.alloc (Obj.cells Tryd.zeroCells62 62)).alloc (Obj.cells #[.pointer (some ⟨wr.heap.size, 0, none⟩)] 47) = W5 at *
      generalize wr.heap.size = T at *
      have hmf : ∀ (fn : Fn) (first cap : Array Value) (w : World), (Instr.makeFunc fn first cap).run Tryd.prog w = .ok (.func fn first cap) w := fun _ _ _ _ => rfl
      have hw2 := HS.out.sz
      have hw1 := HB1.out.size
      have cp := HP5.out.cell 0
      have HS5 : Hid (Sincos W5) := Lib.hid (HS.out.below (HB1.out.trans (HB5.out.mono hw1)))
      have HD := Lib.hid (do_first T (.int .u32 0) W5.drew (HS5.out.drewN 1) (by omega) (World.rowIs.drew HT5.out))
      refine wp_region_still_tail 5 (by kernel_rfl) (by kernel_rfl) ?_
      simp only [List.take_succ_cons, List.take_zero, List.drop_succ_cons, List.drop_zero]
      repeat still_step
      refine wpStill_nil ?_
      change wpList _ _ _ _ _ W5.drew
      go_wp2_with fail
      refine HD.out.mono ?_
      rintro e w3 ⟨rfl, hg3, hr3⟩
      have HB6 : Hid (Below w.heap.size w w3) := Lib.hid ((HB1.out.trans (HB5.out.mono hw1)).trans (below_of_grown (show W5.grownBy w3 (some T) from ⟨hg3.os, hg3.tape, hg3.output, hg3.size, hg3.block⟩) _ (by omega) (by omega)))
      have HT6 := Lib.hid hr3
      have HG6 : Hid (W5.grownBy w3 (some T)) := Lib.hid ⟨hg3.os, hg3.tape, hg3.output, hg3.size, hg3.block⟩
      clear hg3 hr3 HD HS5
      have H3b : Hid (Whole W5 w.heap.size 4 #[.bool false]) := Lib.hid (HW3.out.below HB5.out HW3.out.lt)
      have H6b : Hid (Whole W5 (w.heap.size + 1) 26 #[.int .i64 0, .int .i64 0]) := Lib.hid (HW6.out.below HB5.out HW6.out.lt)
      have hl3 := HW3.out.lt
      have hl6 := HW6.out.lt
      have H3c := Lib.hid (H3b.out.grown HG6.out (fun e => by injection e with e; omega))
      have H6c := Lib.hid (H6b.out.grown HG6.out (fun e => by injection e with e; omega))
      have HPc := Lib.hid (HP5.out.grown HG6.out (fun e => by injection e with e; omega))
      have hq3 := HG6.out.size
      have HWH := Lib.hid (cwheel_any 2 4 c (T) (T + 1) w.heap.size false _ _ _ (some ⟨b, off, none⟩) l4 w3 (by omega) (Lib.hid rfl) (by omega) (by omega) (HA.out.below HB6.out) ok_l4 (by omega) (by omega) (HPc.out.cell 0) (H3c.out.cell 0) HT6.out)
      have c3 := H3c.out.cell 0
      clear HT5 HP5 HB5 HW3 HW6 H3b H6b cp
      go_wp2_with fail
      refine HWH.out.mono ?_
      rintro e w4 ⟨rfl, hb4, hn4⟩
      have hsz4 := hb4.size
      have c3' : w4.cell? ⟨w.heap.size, 0, none⟩ = some (.bool false) := (hb4.cell (p := ⟨w.heap.size, 0, none⟩) (show w.heap.size < _ by omega)).trans c3
      have HB7 := Lib.hid (HB6.out.trans (hb4.mono HB6.out.size))
      have HN7 := Lib.hid hn4
      have H6d := Lib.hid (H6c.out.below hb4 (by omega))
      have hE := HB6.out.size
      have hE6 : w.heap.size + 1 < w3.heap.size := by omega
      have CL2 := fun w => Tryd.bits_Len 4 w (by omega) (by omega)
      rw [show Lib.bitLen (4 : Int).toNat = 3 from by decide +kernel] at CL2
      have HCL2 := Lib.hid CL2
      have q1 := fun w => run_float_arith (P := Tryd.prog) w .mul 34 .f64 (sm 4) (floatOfInt .f64 3) 4629137466983448576 (by decide +kernel)
      have q2 := fun w => run_float_arith (P := Tryd.prog) w .mul 34 .f64 4629137466983448576 4391009636686233600 4412964684869664768 (by decide +kernel)
      have q3 := fun w => run_float_arith (P := Tryd.prog) w .add 34 .f64 4412964684869664768 103582791429521408 4412964684869664768 (by decide +kernel)
      have d0 := H6d.out.cell 0
      have d1 := H6d.out.cell 1
      have e0 := H6d.out.frozen 0
      have e1 := H6d.out.frozen 1
      clear hb4 hn4 HWH CL2 c3
      generalize sm 4 = s4 at *
      generalize w3.heap.size = D at *
      go_wp2_with (first | (go_at_call 22; refine (HCL2.out _).mono ?_; rintro e w5 ⟨rfl, rfl⟩) | (go_at_call 23; refine (ldexp_48 _).mono ?_; rintro e w5 ⟨rfl, rfl⟩) | (go_at_call 23; refine (ldexp_1000 _).mono ?_; rintro e w5 ⟨rfl, rfl⟩))
      have hne : D ≠ w.heap.size + 1 := by omega
      exact bodyPost_ret (v := .tuple #[.slice (some ⟨D, 0, none⟩) 4 4, .float .f64 4412964684869664768, .agg #[.int .i64 0, .int .i64 0]]) (by simp [results, Tryd.results9, go_sem, d0, d1]) rfl ⟨D, rfl, hE, (HB7.out.setCell (by show w.heap.size ≤ w.heap.size + 1; omega) _).setCell (by show w.heap.size ≤ w.heap.size + 1; omega) _, World.rowIs.setOther (World.rowIs.setOther HN7.out (a := ⟨w.heap.size + 1, 0, none⟩) hne _) (a := ⟨w.heap.size + 1, 1, none⟩) hne _⟩
    · have hlt : i < 4 := by omega
      obtain ⟨f1, f2, f3, f4, f5⟩ := fv_facts i hlt
      obtain ⟨z1, z2, z3⟩ := zero_facts
      have hci : wr.cell? ⟨b, off + i, none⟩ = some (.complex .f64 (fv i) 0) := (HBE.out.cell (p := ⟨b, off + i, none⟩) (by have := HB1.out.size; show b < _; omega)).trans ((HB1.out.cell (p := ⟨b, off + i, none⟩) hbl).trans (HCL.out i hlt))
      have CA := Lib.hid (fun w => abs_low (fv i) w f5)
      have CZ := Lib.hid (fun w => abs_low 0 w (by omega))
      have k1 := fun w => run_float_arith (P := Tryd.prog) w .sub 34 .f64 _ _ _ f1
      have k0 := fun w => run_float_arith (P := Tryd.prog) w .sub 34 .f64 _ _ _ z1
      have k3 := fun w => run_float_arith (P := Tryd.prog) w .add 34 .f64 _ _ _ f3
      have k4 := fun w => run_float_arith (P := Tryd.prog) w .add 34 .f64 _ _ _ f4
      clear f1 f3 f4 f5 z1
      generalize fv i = x at *
      generalize sm i = s0 at *
      obtain ⟨s1, hs1⟩ : ∃ s1, sm (i + 1) = s1 := ⟨_, rfl⟩
      rw [hs1] at k3 k4
      have HS1 := Lib.hid hs1
      clear hs1
      have hdec : decide ((i : Int) < 4) = true := decide_eq_true (by omega)
      go_wp2_with fail
      clear hdec
      have HB2 := Lib.hid (HBE.out.alloc HBE.out.size (Obj.cells #[.float .f64 x, .float .f64 0] 34))
      have HWc : Hid (Whole (wr.alloc (Obj.cells #[.float .f64 x, .float .f64 0] 34)) wr.heap.size 34 #[.float .f64 x, .float .f64 0]) := Lib.hid (Whole.new _ _ _ _ rfl)
      clear HBE hci
      obtain ⟨gz, hgz⟩ : ∃ gz, gz = wr.heap.size := ⟨_, rfl⟩
      rw [← hgz] at HWc
      rw [← hgz]
      clear hgz
      generalize wr.alloc (Obj.cells #[.float .f64 x, .float .f64 0] 34) = W2 at *
      clear wr
      go_loopg [7, 34] 2 (fun gk v7 v34 wr => ∃ k : Nat, gk + k = 2 ∧ v34 = .int .i64 (k : Nat) ∧ v7 = .float .f64 (if k = 0 then s0 else s1) ∧ wr = W2)
      case atStart => exact ⟨0, by omega, rfl, rfl, rfl⟩
      case round =>
        obtain ⟨k, hk, rfl, rfl, rfl⟩ := hrel
        have c0 := HWc.out.cell 0
        have c1 := HWc.out.cell 1
        rcases gk with _ | g2
        · obtain rfl : k = 2 := by omega
          simp only [show (2 : Nat) ≠ 0 by decide, if_false]
          go_wp2_with fail
          go_roundg g
          case measure => omega
          case rel => exact ⟨i + 1, by omega, by go_num, by rw [HS1.out], HB2.out⟩
        · rcases (show k = 0 ∨ k = 1 by omega) with rfl | rfl
          · simp only [if_true]
            go_wp2_with (go_at_call 10; refine (CA.out _).mono ?_; rintro e w' ⟨rfl, rfl⟩)
            go_roundg g2
            case measure => omega
            case rel => exact ⟨1, by omega, rfl, rfl, rfl⟩
          · simp only [show (1 : Nat) ≠ 0 by decide, if_false]
            go_wp2_with (go_at_call 10; refine (CZ.out _).mono ?_; rintro e w' ⟨rfl, rfl⟩)
            go_roundg g2
            case measure => omega
            case rel => exact ⟨2, by omega, rfl, rfl, rfl⟩
end Go.Proofs.YtgeebjfbcjhifaaDoor
