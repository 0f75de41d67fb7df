/- Proved here: the contracts of the document's add and whole (of ratios over powers of two, not below 0), in lowest terms, at this program. Conditions: as each theorem says. -/
import Derived.Test.YtjjfkidddjcdcaaDoorRatAdd
import Derived.Test.YtjjfkidddjcdcaaDoorRatLow
import Derived.Test.YtjjfkidddjcdcaaDoorRatOf
namespace Go.Proofs.YtjjfkidddjcdcaaDoor
open Go.ChangeShapes Go.WideShapes Go.ChangeAt Go.RowKit

/-- At block g lies a ratio as great as a over 2^k, in lowest terms. -/
def RatIsL (w : World) (g : Nat) (a : Int) (k : Nat) : Prop := ∃ a' j, RatAt w g a' j ∧ a' * 2 ^ k = a * 2 ^ j ∧ a'.natAbs ≤ a.natAbs ∧ j ≤ k ∧ (a < 0 → a' < 0) ∧ (0 ≤ a → 0 ≤ a') ∧ (j = 0 ∨ a'.natAbs % 2 = 1)

set_option maxRecDepth 100000 in
set_option maxHeartbeats 1000000 in
theorem add_r (gx gy kx ky : Nat) (x y : Int) (w : World) (hx : RatAt w gx x kx) (hy : RatAt w gy y ky) (hx0 : 0 ≤ x) (hy0 : 0 ≤ y) (h1 : wc x.natAbs ≤ 20000) (h2 : wc y.natAbs ≤ 20000) (h3 : wc (x * ((2 ^ ky : Nat) : Int)).natAbs ≤ 50000) (h4 : wc (y * ((2 ^ kx : Nat) : Int)).natAbs ≤ 50000) (h5 : wc (x * ((2 ^ ky : Nat) : Int) + y * ((2 ^ kx : Nat) : Int)).natAbs ≤ 50000) (hk1 : kx ≤ 300000) (hk2 : ky ≤ 300000) :
    Calls Tryd.prog 93 #[.pointer (some ⟨gx, 0, none⟩), .pointer (some ⟨gy, 0, none⟩)] w fun e w' => e = .returned (.pointer (some ⟨w.heap.size, 0, none⟩)) ∧ Below w.heap.size w w' ∧ RatIsL w' w.heap.size (x * ((2 ^ ky : Nat) : Int) + y * ((2 ^ kx : Nat) : Int)) (kx + ky) := by
  have b0 := below_new w (Obj.cells #[.bool false, .slice none 0 0, .bool false, .slice none 0 0] 103)
  have C := Lib.hid (ratadd_gen w.heap.size gx gy kx ky x y _ (ratzero1 w) (ratzero2 w) (hx.below b0) (hy.below b0) hx0 hy0 h1 h2 h3 h4 hk1 hk2
    (fun wa wb => RatPutL wa wb w.heap.size (x * ((2 ^ ky : Nat) : Int) + y * ((2 ^ kx : Nat) : Int)) (kx + ky))
    (fun wq ga gb q1 q2 ha hb => setfracL_z w.heap.size ga 0 gb 0 (kx + ky) 0 0 _ wq q1 q2 ha hb h5 (by omega))
    (fun w1 w' hb h => ⟨grown_trans (grown_below (grown_refl _ (some w.heap.size)) hb) h.1, h.2⟩))
  have B0 := Lib.hid b0
  clear hx hy h1 h2 h3 h4 h5 b0
  generalize x * ((2 ^ ky : Nat) : Int) + y * ((2 ^ kx : Nat) : Int) = S at *
  go_enter Tryd.func93, Tryd.ntmps93
  go_wp2_with fail
  refine C.out.mono ?_
  rintro e w1 ⟨rfl, hg, hP⟩
  have HB := Lib.hid (B0.out.trans (below_of_grown hg _ (Nat.le_refl _) B0.out.size))
  have HP := Lib.hid hP
  clear hg hP C
  go_wp2_with fail
  go_ret
  exact ⟨rfl, HB.out, HP.out⟩

theorem whole_none (w : World) :
    Calls Tryd.prog 92 #[.int .i64 0] w fun e w' => e = .returned (.pointer (some ⟨w.heap.size, 0, none⟩)) ∧ Below w.heap.size w w' ∧ RatAt w' w.heap.size 0 0 := by
  go_enter Tryd.func92, Tryd.ntmps92
  go_wp2_with fail
  refine (newrat_z 0 w (by omega) (by omega)).mono ?_
  rintro e w1 ⟨rfl, hb, a', j, h1, h2, h3, h4, _, _⟩
  have e1 : a' = 0 := by omega
  have e2 : j = 0 := by omega
  subst e1 e2
  have HB := Lib.hid hb
  have H1 := Lib.hid h1
  clear hb h1 h2 h3 h4
  go_wp2_with fail
  go_ret
  exact ⟨rfl, HB.out, H1.out⟩
end Go.Proofs.YtjjfkidddjcdcaaDoor
