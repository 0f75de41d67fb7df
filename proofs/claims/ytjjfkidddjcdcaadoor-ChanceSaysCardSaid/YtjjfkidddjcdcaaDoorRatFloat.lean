/- Proved here: contracts of package enclosurebig's Rat.Sign and Rat.Float64 (over a power of two) at this program. Conditions: as each theorem says. -/
import Derived.Test.YtjjfkidddjcdcaaDoorNear1
import Derived.Test.YtjjfkidddjcdcaaDoorLdexpQ
import Derived.Test.YtjjfkidddjcdcaaDoorRatMul
namespace Go.Proofs.YtjjfkidddjcdcaaDoor
open Go.ChangeShapes Go.WideShapes Go.ChangeAt Go.RowKit

theorem ratsign_z (g k : Nat) (a : Int) (w : World) (h : RatAt w g a k) (hs : wc a.natAbs ≤ 50000) :
    Calls Tryd.prog 99 #[.pointer (some ⟨g, 0, none⟩)] w fun e w' => w' = w ∧ e = .returned (.int .i64 a.sign) := by
  have C := Lib.hid (sign_z g 0 a w h.1 hs)
  generalize a.sign = s at *
  clear h
  go_enter Tryd.func99, Tryd.ntmps99
  go_wp2_with fail
  refine C.out.mono ?_
  rintro e wa ⟨rfl, rfl⟩
  go_wp2_with fail
  go_ret
  exact ⟨rfl, rfl⟩

theorem abs_new (gx ox : Nat) (x : Int) (w : World) (hx : At w gx ox x) (hs : wc x.natAbs ≤ 50000) :
    Calls Tryd.prog 114 #[.pointer (some ⟨w.heap.size, 0, none⟩), .pointer (some ⟨gx, ox, none⟩)] (w.alloc (Obj.cells #[.bool false, .slice none 0 0] 101)) fun e w' => e = .returned (.pointer (some ⟨w.heap.size, 0, none⟩)) ∧ Below w.heap.size w w' ∧ At w' w.heap.size 0 (x.natAbs : Int) := by
  refine (abs_z w.heap.size 0 gx ox 0 x _ (At.zero w) (hx.below (below_new w _)) hs).mono ?_
  rintro e w' ⟨rfl, hP⟩
  exact ⟨rfl, new_put hP⟩

/-- The float nearest to a over 2^k. -/
def fltW (a : Int) (k : Nat) : Nat := (if a < 0 then 9223372036854775808 else 0) + PL.rungOf Ieee.double a.natAbs (-(k : Int))


theorem float_nil (g k : Nat) (w : World) (h : RatAt w g 0 k) :
    Calls Tryd.prog 84 #[.pointer (some ⟨g, 0, none⟩)] w fun e w' => Below w.heap.size w w' ∧ ∃ ex, e = .returned (.tuple #[.float .f64 0, .bool ex]) := by
  have C := Lib.hid (ratsign_z g k 0 w h (by decide))
  clear h
  go_enter Tryd.func84, Tryd.ntmps84
  go_wp2_with fail
  refine C.out.mono ?_
  rintro e wa ⟨rfl, rfl⟩
  go_wp2_with fail
  go_ret2
  exact ⟨Below.refl _ _, true, rfl⟩

set_option maxRecDepth 100000 in
set_option maxHeartbeats 1000000 in
theorem float_more (g k : Nat) (a : Int) (w : World) (h : RatAt w g a k) (h0 : a ≠ 0) (hal : a.natAbs < 2 ^ 20000) (hk : k ≤ 20000) :
    Calls Tryd.prog 84 #[.pointer (some ⟨g, 0, none⟩)] w fun e w' => Below w.heap.size w w' ∧ ∃ ex, e = .returned (.tuple #[.float .f64 (fltW a k), .bool ex]) := by
  have hwa := wc_of_lt hal
  have C1 := Lib.hid (ratsign_z g k a w h (by omega))
  have hsg : (a.sign == 0) = false := by simpa using h0
  have C2 := Lib.hid (abs_new g 0 a w h.1 (by omega))
  have HH := Lib.hid h
  obtain ⟨_, c0, _, _, _⟩ := h.1
  have hlt := h.1.lt
  have HAL := Lib.hid hal
  have hN : 0 < a.natAbs := by omega
  have HF : Hid (fltW a k = (if a < 0 then 9223372036854775808 else 0) + PL.rungOf Ieee.double a.natAbs (-(k : Int))) := rfl
  clear h hal hwa
  obtain ⟨s, hs⟩ : ∃ s, a.sign = s := ⟨_, rfl⟩
  rw [hs] at C1 hsg
  clear hs
  go_enter Tryd.func84, Tryd.ntmps84
  go_wp2_with fail
  refine C1.out.mono ?_
  rintro e wa ⟨rfl, rfl⟩
  go_wp2_with fail
  refine C2.out.mono ?_
  rintro e w1 ⟨rfl, hb1, hn1⟩
  have hR1 := HH.out.below hb1
  go_wp2_with fail
  refine (den_z g k a w1 hR1).mono ?_
  rintro e wx ⟨rfl, rfl⟩
  generalize hgz : wa.heap.size = gz at *
  go_wp2_with fail
  refine (nearby_any gz 0 g 2 a.natAbs k wx hn1 hR1.2 hN HAL.out hk).mono ?_
  rintro e w2 ⟨hb2, gq, q, p, ex, rfl, hq2, hq, hv, hp1, hp2⟩
  have hb02 : Below wa.heap.size wa w2 := by rw [hgz]; exact hb1.trans (hb2.mono (by rw [← hgz]; exact hb1.size))
  have CU := Lib.hid (uint_z gq 0 (q : Int) w2 hq2 (by show q < _; omega))
  rw [show (q : Int).natAbs = q from rfl] at CU
  have hfl := float_of_nat q
  have HV := Lib.hid hv
  clear hv hn1 hb1 hb2 hR1 C1 C2
  have CL := Lib.hid (ldexp_q q p hq (by omega) (by omega) w2)
  have hrl := rung_lt q p
  have q0 : w2.cell? ⟨g, 0, none⟩ = some (.bool (decide (a < 0))) := (hb02.cell (p := ⟨g, 0, none⟩) (by rw [hgz]; exact hlt)).trans c0
  go_wp2_with fail
  refine CU.out.mono ?_
  rintro e wy ⟨rfl, rfl⟩
  go_wp2_with fail
  refine CL.out.mono ?_
  rintro e wz ⟨rfl, rfl⟩
  obtain ⟨V, hV⟩ : ∃ V, PL.rungOf Ieee.double q p = V := ⟨_, rfl⟩
  have hVb : V < 9223372036854775808 := by rw [← hV]; exact hrl
  rw [hV] at HV ⊢
  have CI := Lib.hid (isinf_any V (by omega) wz)
  have hng := run_neg V (by omega)
  have hfv : flip V = V + 9223372036854775808 := if_pos hVb
  rw [hfv] at hng
  rw [← HV.out] at HF
  clear hV hrl hfl CL CU hq2 hfv HV
  obtain ⟨b, hb⟩ : ∃ b, infB V = b := ⟨_, rfl⟩
  rw [hb] at CI
  clear hb
  go_wp2_with fail
  refine CI.out.mono ?_
  rintro e wy ⟨rfl, rfl⟩
  by_cases hneg : a < 0
  · rw [decide_eq_true hneg] at q0
    rw [if_pos hneg, Nat.add_comm] at HF
    clear hneg h0 hN
    cases b
    · go_wp2_with fail
      go_ret2
      rw [HF.out]
      exact ⟨hb02, _, rfl⟩
    · go_wp2_with fail
      go_ret2
      rw [HF.out]
      exact ⟨hb02, _, rfl⟩
  · rw [decide_eq_false hneg] at q0
    rw [if_neg hneg, Nat.zero_add] at HF
    clear hneg h0 hN
    cases b
    · go_wp2_with fail
      go_ret2
      rw [HF.out]
      exact ⟨hb02, _, rfl⟩
    · go_wp2_with fail
      go_ret2
      rw [HF.out]
      exact ⟨hb02, _, rfl⟩
end Go.Proofs.YtjjfkidddjcdcaaDoor
