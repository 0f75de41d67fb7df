/- Proved here: contracts of package enclosurebig's Set, Abs, Neg, Lsh, SetUint64 at this program. Conditions: as each theorem says. -/
import Derived.Test.YtjjfkidddjcdcaaDoorIntZ
import Derived.RegionTactic
import Derived.Deep.RegionWith
namespace Go.Proofs.YtjjfkidddjcdcaaDoor
open Go.ChangeShapes Go.WideShapes Go.ChangeAt Go.RowKit

theorem below_drawn {w w1 : World} (hb : Below w.drew.heap.size w.drew w1) : Below w.heap.size w w1 := (Below.refl _ w).drew.trans hb

set_option maxHeartbeats 1000000 in
theorem set_z (g o gx ox : Nat) (z0 x : Int) (w : World) (hz : At w g o z0) (hx : At w gx ox x) (hs : wc x.natAbs ≤ 50000) :
    Calls Tryd.prog 123 #[.pointer (some ⟨g, o, none⟩), .pointer (some ⟨gx, ox, none⟩)] w fun e w' => e = .returned (.pointer (some ⟨g, o, none⟩)) ∧ Puts w w' g o x := by
  have HZ := Lib.hid hz
  have hlt := hx.lt
  obtain ⟨_, c0, ⟨A, c, c1, hR⟩, _, _⟩ := hx
  have HR := Lib.hid hR
  clear hz hR
  go_enter Tryd.func123, Tryd.ntmps123
  go_wp2_with fail
  go_region_with (first | (go_at_call 131; refine (twin_any A c x.natAbs _ (HR.out.below (Below.refl _ w).drew) (by omega)).mono ?_; rintro e w1 ⟨hb, _, rfl, A1, c1, rfl, hR1⟩; have q0 := hb.cell (p := ⟨gx, ox, none⟩) hlt) | (go_at_call 108; refine (give_puts w _ g o _ z0 x _ _ HZ.out (below_drawn hb) hR1 (neg_pos x)).mono ?_; rintro e w2 ⟨rfl, hP⟩))
  all_goals (go_wp2_with fail; go_ret; exact ⟨rfl, hP⟩)

theorem abs_z (g o gx ox : Nat) (z0 x : Int) (w : World) (hz : At w g o z0) (hx : At w gx ox x) (hs : wc x.natAbs ≤ 50000) :
    Calls Tryd.prog 114 #[.pointer (some ⟨g, o, none⟩), .pointer (some ⟨gx, ox, none⟩)] w fun e w' => e = .returned (.pointer (some ⟨g, o, none⟩)) ∧ Puts w w' g o (x.natAbs : Int) := by
  have HZ := Lib.hid hz
  have hlt := hx.lt
  obtain ⟨_, c0, ⟨A, c, c1, hR⟩, _, _⟩ := hx
  have HR := Lib.hid hR
  have hn : (false && decide (0 < (x.natAbs : Int).natAbs)) = decide ((x.natAbs : Int) < 0) := by simp
  have HN := Lib.hid hn
  clear hz hR hn
  go_enter Tryd.func114, Tryd.ntmps114
  go_wp2_with fail
  refine (twin_any A c x.natAbs _ HR.out (by omega)).mono ?_
  rintro e w1 ⟨hb, _, rfl, A1, c1, rfl, hR1⟩
  go_wp2_with fail
  refine (give_puts w w1 g o c1 z0 (x.natAbs : Int) false A1 HZ.out hb hR1 HN.out).mono ?_
  rintro e w2 ⟨rfl, hP⟩
  go_wp2_with fail
  go_ret
  exact ⟨rfl, hP⟩

theorem intneg_flip (x : Int) : ((!decide (x < 0)) && decide (0 < (-x).natAbs)) = decide (-x < 0) := by
  rcases Int.lt_trichotomy x 0 with h | h | h
  · rw [decide_eq_true h, decide_eq_false (show ¬ -x < 0 by omega)]; rfl
  · subst h; rfl
  · rw [decide_eq_false (show ¬ x < 0 by omega), decide_eq_true (show -x < 0 by omega), decide_eq_true (by omega)]; rfl

set_option maxHeartbeats 1000000 in
theorem neg_z (g o gx ox : Nat) (z0 x : Int) (w : World) (hz : At w g o z0) (hx : At w gx ox x) (hs : wc x.natAbs ≤ 50000) :
    Calls Tryd.prog 126 #[.pointer (some ⟨g, o, none⟩), .pointer (some ⟨gx, ox, none⟩)] w fun e w' => e = .returned (.pointer (some ⟨g, o, none⟩)) ∧ Puts w w' g o (-x) := by
  have HZ := Lib.hid hz
  have hlt := hx.lt
  obtain ⟨_, c0, ⟨A, c, c1, hR⟩, _, _⟩ := hx
  have HF := Lib.hid (intneg_flip x)
  have HE := Lib.hid (Int.natAbs_neg x)
  rw [← HE.out] at c1 hR hs
  have HR := Lib.hid hR
  clear hz hR
  obtain ⟨n, hn⟩ : ∃ n, decide (x < 0) = n := ⟨_, rfl⟩
  rw [hn] at c0 HF
  clear hn
  generalize -x = y at *
  go_enter Tryd.func126, Tryd.ntmps126
  go_wp2_with fail
  go_region_with (first | (go_at_call 131; refine (twin_any A c y.natAbs _ (HR.out.below (Below.refl _ w).drew) (by omega)).mono ?_; rintro e w1 ⟨hb, _, rfl, A1, c1, rfl, hR1⟩; have q0 := hb.cell (p := ⟨gx, ox, none⟩) hlt) | (go_at_call 108; refine (give_puts w _ g o _ z0 y _ _ HZ.out (below_drawn hb) hR1 HF.out).mono ?_; rintro e w2 ⟨rfl, hP⟩))
  all_goals (go_wp2_with fail; go_ret; exact ⟨rfl, hP⟩)

theorem shl_neg (x : Int) (n : Nat) : (decide (x < 0) && decide (0 < (x * 2 ^ n).natAbs)) = decide (x * 2 ^ n < 0) := by
  have hp : (0 : Int) < 2 ^ n := Int.pow_pos (by omega)
  rcases Int.lt_or_le x 0 with h | h
  · have h1 : x * 2 ^ n < 0 := Int.mul_neg_of_neg_of_pos h hp
    rw [decide_eq_true h, decide_eq_true h1, decide_eq_true (by omega)]; rfl
  · have h1 : 0 ≤ x * 2 ^ n := Int.mul_nonneg h (by omega)
    rw [decide_eq_false (show ¬ x < 0 by omega), decide_eq_false (show ¬ x * 2 ^ n < 0 by omega)]; rfl
theorem shl_abs (x : Int) (n : Nat) : (x * 2 ^ n).natAbs = x.natAbs * 2 ^ n := by
  rw [Int.natAbs_mul, Int.natAbs_pow]; rfl

set_option maxHeartbeats 1000000 in
theorem lsh_z (g o gx ox n : Nat) (z0 x : Int) (w : World) (hz : At w g o z0) (hx : At w gx ox x) (hs : wc x.natAbs ≤ 50000) (hn : n ≤ 1000000) :
    Calls Tryd.prog 78 #[.pointer (some ⟨g, o, none⟩), .pointer (some ⟨gx, ox, none⟩), .int .u64 n] w fun e w' => e = .returned (.pointer (some ⟨g, o, none⟩)) ∧ Puts w w' g o (x * 2 ^ n) := by
  have HZ := Lib.hid hz
  have hlt := hx.lt
  obtain ⟨_, c0, ⟨A, c, c1, hR⟩, _, _⟩ := hx
  have HF := Lib.hid (shl_neg x n)
  have HC := Lib.hid (fun w' hb => left_any A c x.natAbs n w' (hR.below hb) (by omega) hn)
  rw [← shl_abs] at HC
  clear hz hR
  obtain ⟨b, hb⟩ : ∃ b, decide (x < 0) = b := ⟨_, rfl⟩
  rw [hb] at c0 HF
  clear hb
  generalize x * 2 ^ n = y at *
  go_enter Tryd.func78, Tryd.ntmps78
  go_wp2_with fail
  go_region_with (first | (go_at_call 110; refine (HC.out _ (Below.refl _ w).drew).mono ?_; rintro e w1 ⟨hb, _, rfl, A1, c1, rfl, hR1⟩; have q0 := hb.cell (p := ⟨gx, ox, none⟩) hlt) | (go_at_call 108; refine (give_puts w _ g o _ z0 y _ _ HZ.out (below_drawn hb) hR1 HF.out).mono ?_; rintro e w2 ⟨rfl, hP⟩))
  all_goals (go_wp2_with fail; go_ret; exact ⟨rfl, hP⟩)

theorem setuint_z (g o x : Nat) (z0 : Int) (w : World) (hz : At w g o z0) (hx : x < 18446744073709551616) :
    Calls Tryd.prog 81 #[.pointer (some ⟨g, o, none⟩), .int .u64 x] w fun e w' => e = .returned (.pointer (some ⟨g, o, none⟩)) ∧ Puts w w' g o (x : Int) := by
  have HZ := Lib.hid hz
  have hn : (false && decide (0 < (x : Int).natAbs)) = decide ((x : Int) < 0) := by simp
  have HN := Lib.hid hn
  clear hz hn
  go_enter Tryd.func81, Tryd.ntmps81
  go_wp2_with fail
  refine (words_any x w hx).mono ?_
  rintro e w1 ⟨hb, _, rfl, A1, c1, rfl, hR1⟩
  go_wp2_with fail
  refine (give_puts w w1 g o c1 z0 (x : Int) false A1 HZ.out hb hR1 HN.out).mono ?_
  rintro e w2 ⟨rfl, hP⟩
  go_wp2_with fail
  go_ret
  exact ⟨rfl, hP⟩
end Go.Proofs.YtjjfkidddjcdcaaDoor
