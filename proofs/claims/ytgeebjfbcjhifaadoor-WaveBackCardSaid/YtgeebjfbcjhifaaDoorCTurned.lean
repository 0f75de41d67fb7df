/- Proved here: the contract of package wave's turned, of complex numbers, at this program. Conditions: as the theorem says. -/
import Derived.Test.YtgeebjfbcjhifaaDoorCClos
namespace Go.Proofs.YtgeebjfbcjhifaaDoor
open Go.ChangeShapes Go.WideShapes Go.ChangeAt Go.RowKit

def updC (s : Nat → Cx) (i : Nat) (x : Cx) : Nat → Cx := fun j => if j = i then x else s j
def turnC (lg : Nat) (l : Nat → Cx) : Nat → (Nat → Cx)
  | 0 => fun _ => (0, 0)
  | i + 1 => updC (turnC lg l i) (revB lg i) (l i)
/-- A slice that holds these complex numbers. -/
def CRow (w : World) (A : Option Addr) (n : Nat) (f : Nat → Cx) : Prop :=
  0 < n → ∃ b off, A = some ⟨b, off, none⟩ ∧ b < w.heap.size ∧ ∀ j, j < n → w.cell? ⟨b, off + j, none⟩ = some (.complex .f64 (f j).1 (f j).2)
theorem CRow.below {w w' : World} {A : Option Addr} {n : Nat} {f : Nat → Cx} (h : CRow w A n f) (hb : Below w.heap.size w w') : CRow w' A n f := fun hn => by
  obtain ⟨b, off, e, hlt, hc⟩ := h hn
  exact ⟨b, off, e, Nat.lt_of_lt_of_le hlt hb.size, fun j hj => (hb.cell (p := ⟨b, off + j, none⟩) hlt).trans (hc j hj)⟩
/-- Block D holds these complex numbers, N of them. -/
def CNums (w : World) (D N : Nat) (s : Nat → Cx) : Prop := w.rowIs D 37 N (fun j => .complex .f64 (s j).1 (s j).2)
theorem CNums.cell {w : World} {D N : Nat} {s : Nat → Cx} (h : CNums w D N s) (j : Nat) (hj : j < N) : w.cell? ⟨D, j, none⟩ = some (.complex .f64 (s j).1 (s j).2) := World.rowIs.cell h hj
theorem CNums.frozen {w : World} {D N : Nat} {s : Nat → Cx} (h : CNums w D N s) (j : Nat) : w.frozen? ⟨D, j, none⟩ = false := World.rowIs.frozen h j
theorem CNums.lt {w : World} {D N : Nat} {s : Nat → Cx} (h : CNums w D N s) : D < w.heap.size := World.rowIs.lt h
theorem CNums.drewN {w : World} {D N : Nat} {s : Nat → Cx} (h : CNums w D N s) (q : Nat) : CNums (w.drewN q) D N s := h
theorem CNums.set {w : World} {D N : Nat} {s : Nat → Cx} (h : CNums w D N s) (i : Nat) (x : Cx) : CNums (w.setCell ⟨D, i, none⟩ (.complex .f64 x.1 x.2)) D N (updC s i x) :=
  World.rowIs.congr (World.rowIs.set h i _) fun j _ => by unfold updC; by_cases e : j = i <;> simp [e]
theorem cnums_made (w : World) (n : Nat) : CNums (w.alloc (.cells (madeCells #[.complex .f64 0 0] n) 37)) w.heap.size n (fun _ => (0, 0)) := World.rowIs_made w _ n 37

set_option maxRecDepth 100000 in
theorem make_cplx (w : World) (n : Nat) (hn : n ≤ 1000000) : (Instr.makeSlice 33 (.int .i64 (n : Int)) (.int .i64 (n : Int))).run Tryd.prog w = .ok (.slice (some ⟨w.heap.size, 0, none⟩) n n) (w.alloc (.cells (madeCells #[.complex .f64 0 0] n) 37)) := by
  obtain ⟨i, hi, hz, hs, hb⟩ : ∃ i, Tryd.prog.info? 37 = some i ∧ i.zero = some (.complex .f64 0 0) ∧ i.size = 1 ∧ i.bytes = 16 := ⟨_, rfl, rfl, rfl, rfl⟩
  have h := run_make (P := Tryd.prog) w 33 37 i (.complex .f64 0 0) rfl hi hz .i64 .i64 n n (by omega) (by omega) (by rw [hb]; omega) (by omega)
  rw [hs] at h
  simpa [Value.cells] using h

set_option maxRecDepth 100000 in
set_option maxHeartbeats 4000000 in
theorem cturned_any (lg n c : Nat) (A : Option Addr) (l : Nat → Cx) (w : World) (hl : lg ≤ 6) (hn : Hid (n = 2 ^ lg)) (hn1 : 1 ≤ n) (hn2 : n ≤ 64) (hR : CRow w A n l) :
    Calls Tryd.prog 37 #[.slice A n c] w fun e w' => e = .returned (.slice (some ⟨w.heap.size, 0, none⟩) n n) ∧ Below w.heap.size w w' ∧ CNums w' w.heap.size n (turnC lg l n) := by
  obtain ⟨b, off, rfl, hb, _⟩ := hR (by omega)
  have HR := Lib.hid hR
  have hmk : ∀ w : World, (Instr.makeSlice 33 (.int .i64 (n : Int)) (.int .i64 (n : Int))).run Tryd.prog w = .ok (.slice (some ⟨w.heap.size, 0, none⟩) n n) (w.alloc (.cells (madeCells #[.complex .f64 0 0] n) 37)) := fun w => make_cplx w n (by omega)
  have CL := fun w => Tryd.bits_Len ((n : Int) - 1) w (by omega) (by omega)
  rw [show ((n : Int) - 1).toNat = 2 ^ lg - 1 by rw [hn.out]; omega, len_of lg hl] at CL
  have HCL := Lib.hid CL
  clear CL hR
  go_enter Tryd.func37, Tryd.ntmps37
  go_wp2_with fail
  refine (HCL.out _).mono ?_
  rintro e w1 ⟨rfl, rfl⟩
  clear HCL hmk
  go_wp2_with fail
  have HB0 := Lib.hid ((Below.refl w.heap.size w).alloc (Nat.le_refl _) (Obj.cells (madeCells #[.complex .f64 0 0] n) 37))
  have HN0 := Lib.hid (cnums_made w n)
  have hD0 : w.heap.size < (w.alloc (Obj.cells (madeCells #[.complex .f64 0 0] n) 37)).heap.size := by simp
  generalize w.alloc (Obj.cells (madeCells #[.complex .f64 0 0] n) 37) = w1 at *
  go_loopg [19] n (fun gk v19 wr => ∃ i : Nat, gk + i = n ∧ v19 = .int .i64 (i : Nat) ∧ Below w.heap.size w wr ∧ CNums wr w.heap.size n (turnC lg l i))
  case atStart => exact ⟨0, by omega, rfl, HB0.out, HN0.out⟩
  case round =>
    clear HB0 HN0 hD0
    obtain ⟨i, hi, rfl, hbe, hnu⟩ := hrel
    have HBE := Lib.hid hbe
    have HNU := Lib.hid hnu
    clear hbe hnu
    by_cases hlt : i < n
    · obtain ⟨g, rfl⟩ : ∃ g, gk = g + 1 := ⟨gk - 1, by omega⟩
      have hcell : wr.cell? ⟨b, off + i, none⟩ = some (.complex .f64 (l i).1 (l i).2) := by
        obtain ⟨b', off', e, _, hc⟩ := (HR.out.below HBE.out) (by omega)
        injection e with e
        injection e with e1 e2
        subst e1 e2
        exact hc i hlt
      have hr := revB_lt lg i
      rw [← hn.out] at hr
      have fr := HNU.out.frozen (revB lg i)
      have cr := HNU.out.cell (revB lg i) hr
      have hst := store_complex
      have hS : CNums (wr.setCell ⟨w.heap.size, revB lg i, none⟩ (.complex .f64 (l i).1 (l i).2)) w.heap.size n (turnC lg l (i + 1)) := HNU.out.set (revB lg i) (l i)
      have HS := Lib.hid hS
      clear hS
      have hlD := HNU.out.lt
      by_cases h1 : 1 < n
      · have CR := Lib.hid (fun w => rev_any i w (by omega))
        have e2 : wrap64 (((revB 64 i : Nat) : Int) / 2 ^ (64 - lg)) = ((revB lg i : Nat) : Int) := by
          have e3 : ((revB 64 i : Nat) : Int) / 2 ^ (64 - lg) = ((revB lg i : Nat) : Int) := by
            rw [← rev_shift lg (by omega) i (by rw [← hn.out]; exact hlt), Int.natCast_ediv, Int.natCast_pow]; rfl
          rw [e3]
          unfold wrap64
          omega
        have HE2 := Lib.hid e2
        clear e2
        generalize revB 64 i = r64 at *
        generalize revB lg i = r at *
        have e2 := HE2.out
        go_wp2_with (go_at_call 51; refine (CR.out _).mono ?_; rintro e w' ⟨rfl, rfl⟩)
        go_roundg g
        case measure => omega
        case rel => exact ⟨i + 1, by omega, by go_num, HBE.out.setCell (Nat.le_refl _) _, HS.out⟩
      · obtain rfl : n = 1 := by omega
        obtain rfl : i = 0 := by omega
        obtain rfl : lg = 0 := by
          have h := hn.out
          cases lg with
          | zero => rfl
          | succ m => rw [Nat.pow_succ] at h; omega
        have hr0 : revB 0 0 = 0 := rfl
        rw [hr0] at fr cr HS
        rw [Nat.add_zero] at hcell
        clear hr0
        go_wp2_with fail
        go_roundg g
        case measure => omega
        case rel => exact ⟨1, by omega, by go_num, HBE.out.setCell (Nat.le_refl _) _, HS.out⟩
    · obtain rfl : i = n := by omega
      go_wp2_with fail
      go_ret
      exact ⟨rfl, HBE.out, HNU.out⟩
end Go.Proofs.YtgeebjfbcjhifaaDoor
