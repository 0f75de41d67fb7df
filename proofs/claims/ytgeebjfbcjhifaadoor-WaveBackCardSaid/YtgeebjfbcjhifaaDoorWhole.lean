/- Proved here: contracts of package wave's Whole at this program. Conditions: as each theorem says. -/
import Derived.Test.YtgeebjfbcjhifaaDoorModulo
namespace Go.Proofs.YtgeebjfbcjhifaaDoor
open Go.ChangeShapes Go.WideShapes Go.ChangeAt Go.RowKit

set_option maxRecDepth 100000 in
set_option maxHeartbeats 8000000 in
theorem whole_shape (n c : Nat) (back : Bool) (A : Option Addr) (w : World) (hn : n < 9223372036854775808) (hlen : Hid (isLen n = false)) :
    Calls Tryd.prog 5 #[.slice A n c, .bool back] w fun e w' => e = .returned (.tuple #[.slice none 0 0, .agg #[.int .i64 7, .int .i64 0]]) ∧ Below w.heap.size w w' := by
  have CL := fun w => length_any n w hn
  rw [hlen.out] at CL
  have HCL := Lib.hid CL
  clear CL
  go_enter Tryd.func5, Tryd.ntmps5
  go_wp2_with (go_at_call 11; refine (HCL.out _).mono ?_; rintro e w' ⟨rfl, rfl⟩)
  exact bodyPost_ret (v := .tuple #[.slice none 0 0, .agg #[.int .i64 7, .int .i64 0]]) (by simp [results, Tryd.results5, go_sem]) rfl ⟨rfl, by go_grown⟩

def inR (x : Int) : Prop := 0 ≤ x ∧ x < 998244353
set_option maxRecDepth 100000 in
set_option maxHeartbeats 8000000 in
theorem whole_range (n c i : Nat) (back : Bool) (A : Option Addr) (f : Nat → Int) (w : World) (hn : n ≤ 64) (hlen : Hid (isLen n = true)) (hR : Row w A n f) (hi : i < n) (hbad : ¬ inR (f i)) (hok : ∀ j, j < i → inR (f j)) :
    Calls Tryd.prog 5 #[.slice A n c, .bool back] w fun e w' => e = .returned (.tuple #[.slice none 0 0, .agg #[.int .i64 3, .int .i64 (i : Nat)]]) ∧ Below w.heap.size w w' := by
  obtain ⟨b, off, rfl, hb, hc⟩ := hR (by omega)
  have CL := fun w => length_any n w (by omega)
  rw [hlen.out] at CL
  have HCL := Lib.hid CL
  have HC := Lib.hid hc
  have HOK := Lib.hid hok
  have HBAD := Lib.hid hbad
  clear CL hR hc hok hbad
  go_enter Tryd.func5, Tryd.ntmps5
  go_wp2_with (go_at_call 11; refine (HCL.out _).mono ?_; rintro e w' ⟨rfl, rfl⟩)
  have HB0 := Lib.hid ((Below.refl w.heap.size w).alloc (Nat.le_refl _) (Obj.cells #[.int .i64 0, .int .i64 0] 26))
  have HW0 : Hid (Whole (w.alloc (Obj.cells #[.int .i64 0, .int .i64 0] 26)) w.heap.size 26 #[.int .i64 0, .int .i64 0]) := Lib.hid (Whole.new _ _ _ _ rfl)
  have HC1 : Hid (∀ j, j < n → (w.alloc (Obj.cells #[.int .i64 0, .int .i64 0] 26)).cell? ⟨b, off + j, none⟩ = some (.int .i64 (f j))) := Lib.hid fun j hj => (HB0.out.cell (p := ⟨b, off + j, none⟩) hb).trans (HC.out j hj)
  clear HCL HC
  generalize w.alloc (Obj.cells #[.int .i64 0, .int .i64 0] 26) = W1 at *
  go_loopg [15] i (fun gk v15 wr => ∃ k : Nat, gk + k = i ∧ v15 = .int .i64 (k : Nat) ∧ wr = W1)
  case atStart => exact ⟨0, by omega, rfl, rfl⟩
  case round =>
    obtain ⟨k, hk, rfl, rfl⟩ := hrel
    have ck := HC1.out k (by omega)
    rcases gk with _ | g
    · obtain rfl : k = i := by omega
      have hb0 := HBAD.out
      have w0 := HW0.out.cell 0
      have w1 := HW0.out.cell 1
      have f0 := HW0.out.frozen 0
      have f1 := HW0.out.frozen 1
      have hcase : f k < 0 ∨ (¬ f k < 0 ∧ 998244353 ≤ f k) := by unfold inR at hb0; omega
      clear hb0 HBAD
      generalize f k = x at *
      rcases hcase with h | ⟨h, h2⟩
      all_goals
        go_wp2_with fail
        exact bodyPost_ret (v := .tuple #[.slice none 0 0, .agg #[.int .i64 3, .int .i64 (k : Nat)]]) (by simp [results, Tryd.results5, go_sem, w0, w1]) rfl ⟨rfl, (HB0.out.setCell (Nat.le_refl _) _).setCell (Nat.le_refl _) _⟩
    · obtain ⟨h1, h2⟩ := HOK.out k (by omega)
      have h3 : ¬ f k < 0 := by omega
      have h4 : ¬ 998244353 ≤ f k := by omega
      generalize f k = x at *
      go_wp2_with fail
      go_roundg g
      case measure => omega
      case rel => exact ⟨k + 1, by omega, by go_num, rfl⟩

set_option maxRecDepth 100000 in
set_option maxHeartbeats 8000000 in
theorem whole_any (lg n c : Nat) (back : Bool) (A : Option Addr) (l : Nat → Nat) (w : World) (hl : lg ≤ 6) (hn : Hid (n = 2 ^ lg)) (hn1 : 1 ≤ n) (hn2 : n ≤ 64) (hlen : Hid (isLen n = true)) (hR : Row w A n (fun j => (l j : Int))) (hlow : Low 998244353 l) :
    Calls Tryd.prog 5 #[.slice A n c, .bool back] w fun e w' => e = .returned (.tuple #[.slice (some ⟨w.heap.size + 3, 0, none⟩) n n, .agg #[.int .i64 0, .int .i64 0]]) ∧ Below w.heap.size w w' ∧ Nums w' (w.heap.size + 3) n (modS 998244353 back lg l) := by
  have HM := Lib.hid (fun w1 => modulo_any lg n c 998244353 back A l w1 hl hn hn1 hn2)
  have HR0 := Lib.hid hR
  obtain ⟨b, off, rfl, hb, hc⟩ := hR (by omega)
  have CL := fun w => length_any n w (by omega)
  rw [hlen.out] at CL
  have HCL := Lib.hid CL
  have HC := Lib.hid hc
  have HLOW := Lib.hid hlow
  clear CL hR hc hlow
  go_enter Tryd.func5, Tryd.ntmps5
  go_wp2_with (go_at_call 11; refine (HCL.out _).mono ?_; rintro e w' ⟨rfl, rfl⟩)
  have HB0 := Lib.hid ((Below.refl w.heap.size w).alloc (Nat.le_refl _) (Obj.cells #[.int .i64 0, .int .i64 0] 26))
  have HW0 : Hid (Whole (w.alloc (Obj.cells #[.int .i64 0, .int .i64 0] 26)) w.heap.size 26 #[.int .i64 0, .int .i64 0]) := Lib.hid (Whole.new _ _ _ _ rfl)
  have HC1 : Hid (∀ j, j < n → (w.alloc (Obj.cells #[.int .i64 0, .int .i64 0] 26)).cell? ⟨b, off + j, none⟩ = some (.int .i64 (l j))) := Lib.hid fun j hj => (HB0.out.cell (p := ⟨b, off + j, none⟩) hb).trans (HC.out j hj)
  have HR1 := Lib.hid (HR0.out.below HB0.out)
  have hsz : (w.alloc (Obj.cells #[.int .i64 0, .int .i64 0] 26)).heap.size = w.heap.size + 1 := by simp
  clear HCL HC HR0
  generalize w.alloc (Obj.cells #[.int .i64 0, .int .i64 0] 26) = W1 at *
  have HM1 := Lib.hid (HM.out W1 HR1.out (by omega) (by omega) HLOW.out)
  rw [hsz] at HM1
  clear HM HR1
  go_loopg [15] n (fun gk v15 wr => ∃ k : Nat, gk + k = n ∧ v15 = .int .i64 (k : Nat) ∧ wr = W1)
  case atStart => exact ⟨0, by omega, rfl, rfl⟩
  case round =>
    obtain ⟨k, hk, rfl, rfl⟩ := hrel
    rcases gk with _ | g
    · obtain rfl : k = n := by omega
      go_wp2_with fail
      refine HM1.out.mono ?_
      rintro e w3 ⟨rfl, hb3, hn3⟩
      have hb3' : Below (w.heap.size + 1) wr w3 := hb3
      have HW3 := Lib.hid (HW0.out.below hb3' (by omega))
      have HB3 := Lib.hid (HB0.out.trans (hb3'.mono (by omega)))
      have HN3 := Lib.hid hn3
      have w0 := HW3.out.cell 0
      have w1 := HW3.out.cell 1
      have f0 := HW3.out.frozen 0
      have f1 := HW3.out.frozen 1
      have hne : w.heap.size + 3 ≠ w.heap.size := by omega
      clear hb3 hb3' hn3 HM1
      go_wp2_with fail
      exact bodyPost_ret (v := .tuple #[.slice (some ⟨w.heap.size + 3, 0, none⟩) k k, .agg #[.int .i64 0, .int .i64 0]]) (by simp [results, Tryd.results5, go_sem, w0, w1]) rfl ⟨rfl, (HB3.out.setCell (Nat.le_refl _) _).setCell (Nat.le_refl _) _, (HN3.out.far (p := ⟨w.heap.size, 0, none⟩) hne _).far (p := ⟨w.heap.size, 1, none⟩) hne _⟩
    · have ck := HC1.out k (by omega)
      have hlk := HLOW.out k
      have h1 : 0 ≤ (l k : Int) := by omega
      have h2 : (l k : Int) < 998244353 := by omega
      have h3 : ¬ (l k : Int) < 0 := by omega
      have h4 : ¬ 998244353 ≤ (l k : Int) := by omega
      clear hlk
      generalize (l k : Int) = x at *
      go_wp2_with fail
      go_roundg g
      case measure => omega
      case rel => exact ⟨k + 1, by omega, by go_num, rfl⟩
end Go.Proofs.YtgeebjfbcjhifaaDoor
