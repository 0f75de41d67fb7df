/- Proved here: the contract of package wave's power at this program. Conditions: as the theorem says. -/
import Derived.Test.YtgeebjfbcjhifaaDoorMem
import Derived.Test.YtgeebjfbcjhifaaDoorProg
import Derived.WalkKit
import Derived.ProofKit
import Derived.OpenShut
import Derived.Handy
import Derived.WalkLawsBesides
import Derived.WalkSpells
import Derived.Deep.QuietTactic
import Derived.BigQuiet
import Derived.BigGuardPart
import Derived.Laws.BitsAllLaws
import Derived.Outline
import Derived.Lib.Hide
import Derived.RegionTactic
import Derived.ChangeAlike
import Derived.Deep.LoopGhost
namespace Go.Proofs.YtgeebjfbcjhifaaDoor
open Go.ChangeShapes Go.WideShapes Go.ChangeAt Go.RowKit

theorem and_one (m : Nat) (hm : m < 9223372036854775808) : bits .and .i64 (m : Int) 1 = ((m % 2 : Nat) : Int) := by
  show IntKind.i64.wrap ((BitVec.ofInt 64 (m : Int) &&& BitVec.ofInt 64 1).toNat : Int) = _
  have o1 : (BitVec.ofInt 64 (m : Int)).toNat = m := by rw [BitVec.ofInt_natCast, BitVec.toNat_ofNat]; exact Nat.mod_eq_of_lt (by omega)
  have o2 : (BitVec.ofInt 64 1).toNat = 1 := rfl
  rw [BitVec.toNat_and, o1, o2, Nat.and_one_is_mod, IntKind.wrap_i64]
  omega
theorem mul_low (a b : Nat) (ha : a < 2147483648) (hb : b < 2147483648) : 0 ≤ (a : Int) * (b : Int) ∧ (a : Int) * (b : Int) ≤ 4611686018427387904 := by
  rw [← Int.natCast_mul]
  have h : a * b ≤ 2147483648 * 2147483648 := Nat.mul_le_mul (by omega) (by omega)
  omega

def PowRel (p res g : Nat) (v0 v1 v7 : Value) : Prop := ∃ r a n : Nat, v0 = .int .i64 (a : Nat) ∧ v1 = .int .i64 (n : Nat) ∧ v7 = .int .i64 (r : Nat) ∧ a < p ∧ r < p ∧ n < 2 ^ g ∧ g ≤ 63 ∧ pwL p g r a n = res
theorem PowRel.next {p res g r a n : Nat} (hp : 0 < p) (hn : 0 < n) (hn2 : n < 2 ^ (g + 1)) (hg : g + 1 ≤ 63) (hr : r < p) (h : pwL p (g + 1) r a n = res) (r' : Nat) (hr' : r' = if n % 2 = 1 then r * a % p else r) :
    PowRel p res g (.int .i64 ((a : Int) * (a : Int) % (p : Int))) (.int .i64 ((n : Int) / 2)) (.int .i64 (r' : Nat)) := by
  refine ⟨r', a * a % p, n / 2, by rw [Int.natCast_emod, Int.natCast_mul], by rw [Int.natCast_ediv]; rfl, rfl, Nat.mod_lt _ hp, ?_, by rw [Nat.pow_succ] at hn2; omega, by omega, ?_⟩
  · rw [hr']; split
    · exact Nat.mod_lt _ hp
    · exact hr
  · unfold pwL at h
    rw [if_neg (by omega)] at h
    rw [hr']
    exact h

set_option maxHeartbeats 4000000 in
theorem power_any (a n p : Nat) (w : World) (hp : 1 < p) (hp2 : p < 2147483648) (ha : a < p) (hn : n < 9223372036854775808) (res : Nat) (hres : Hid (pw a n p = res)) :
    Calls Tryd.prog 28 #[.int .i64 (a : Nat), .int .i64 (n : Nat), .int .i64 (p : Nat)] w fun e w' => e = .returned (.int .i64 (res : Nat)) ∧ w' = w := by
  go_enter Tryd.func28, Tryd.ntmps28
  go_wp2_with fail
  go_loopg [0, 1, 7] 63 (fun g v0 v1 v7 wr => PowRel p res g v0 v1 v7 ∧ wr = w)
  case atStart => exact ⟨⟨1, a, n, rfl, rfl, rfl, ha, hp, hn, Nat.le_refl _, hres.out⟩, rfl⟩
  case round =>
    obtain ⟨⟨r, a, n, rfl, rfl, rfl, ha, hr, hn, hg, hL⟩, rfl⟩ := hrel
    rcases Nat.eq_zero_or_pos n with h0 | h0
    · subst h0
      have hL2 : r = res := by
        cases gk with
        | zero => exact hL
        | succ g => unfold pwL at hL; rw [if_pos rfl] at hL; exact hL
      subst hL2
      clear hL hn
      go_wp2_with fail
      go_ret
      exact ⟨rfl, rfl⟩
    · obtain ⟨g, rfl⟩ : ∃ g, gk = g + 1 := ⟨gk - 1, by cases gk with | zero => simp at hn; omega | succ g => rfl⟩
      obtain ⟨b1, b2⟩ := mul_low r a (by omega) (by omega)
      obtain ⟨b3, b4⟩ := mul_low a a (by omega) (by omega)
      have hn3 : n < 9223372036854775808 := Nat.lt_of_lt_of_le hn (Nat.pow_le_pow_right (by decide) hg)
      have hp0 : (0 : Int) < (p : Int) := by omega
      have HN := Lib.hid hn
      have HL := Lib.hid hL
      clear hn hL
      by_cases h1 : n % 2 = 1
      · have z : (bits .and .i64 (n : Int) 1 == 1) = true := by rw [and_one n hn3, h1]; rfl
        go_wp2_with fail
        go_roundg g
        case measure => omega
        case rel => exact ⟨by have := PowRel.next (by omega) h0 HN.out hg hr HL.out (r * a % p) (by rw [if_pos h1]); rw [Int.natCast_emod, Int.natCast_mul] at this; exact this, rfl⟩
      · have z : (bits .and .i64 (n : Int) 1 == 1) = false := by rw [and_one n hn3, show n % 2 = 0 by omega]; rfl
        go_wp2_with fail
        go_roundg g
        case measure => omega
        case rel => exact ⟨PowRel.next (by omega) h0 HN.out hg hr HL.out r (by rw [if_neg h1]), rfl⟩
end Go.Proofs.YtgeebjfbcjhifaaDoor
