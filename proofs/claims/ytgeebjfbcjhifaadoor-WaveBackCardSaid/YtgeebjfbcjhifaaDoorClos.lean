/- Proved here: contracts of the closures of package wave's modulo and of its length at this program. Conditions: as each theorem says. -/
import Derived.Test.YtgeebjfbcjhifaaDoorPower
namespace Go.Proofs.YtgeebjfbcjhifaaDoor
open Go.ChangeShapes Go.WideShapes Go.ChangeAt Go.RowKit

theorem ret_i64 {a b : Int} (h : a = b) : Ending.returned (.int .i64 a) = .returned (.int .i64 b) := by rw [h]
theorem mulc_any (x y p g : Nat) (w : World) (hp : 1 < p) (hp2 : p < 2147483648) (hx : x < p) (hy : y < p) (hc : w.cell? ⟨g, 0, none⟩ = some (.int .i64 (p : Nat))) :
    Calls Tryd.prog 29 #[.int .i64 (x : Nat), .int .i64 (y : Nat), .pointer (some ⟨g, 0, none⟩)] w fun e w' => e = .returned (.int .i64 ((x * y % p : Nat) : Int)) ∧ w' = w := by
  obtain ⟨b1, b2⟩ := mul_low x y (by omega) (by omega)
  have hp0 : (0 : Int) < (p : Int) := by omega
  go_enter Tryd.func29, Tryd.ntmps29
  go_wp2_with fail
  go_ret
  exact ⟨ret_i64 (by rw [Int.natCast_emod, Int.natCast_mul]), rfl⟩
theorem addc_any (x y p g : Nat) (w : World) (hp : 1 < p) (hp2 : p < 2147483648) (hx : x < p) (hy : y < p) (hc : w.cell? ⟨g, 0, none⟩ = some (.int .i64 (p : Nat))) :
    Calls Tryd.prog 30 #[.int .i64 (x : Nat), .int .i64 (y : Nat), .pointer (some ⟨g, 0, none⟩)] w fun e w' => e = .returned (.int .i64 (((x + y) % p : Nat) : Int)) ∧ w' = w := by
  have hp0 : (0 : Int) < (p : Int) := by omega
  go_enter Tryd.func30, Tryd.ntmps30
  go_wp2_with fail
  go_ret
  exact ⟨ret_i64 (by rw [Int.natCast_emod, Int.natCast_add]), rfl⟩
theorem subc_any (x y p g : Nat) (w : World) (hp : 1 < p) (hp2 : p < 2147483648) (hx : x < p) (hy : y < p) (hc : w.cell? ⟨g, 0, none⟩ = some (.int .i64 (p : Nat))) :
    Calls Tryd.prog 31 #[.int .i64 (x : Nat), .int .i64 (y : Nat), .pointer (some ⟨g, 0, none⟩)] w fun e w' => e = .returned (.int .i64 (((x + p - y) % p : Nat) : Int)) ∧ w' = w := by
  have hp0 : (0 : Int) < (p : Int) := by omega
  go_enter Tryd.func31, Tryd.ntmps31
  go_wp2_with fail
  go_ret
  exact ⟨ret_i64 (by rw [Int.natCast_emod, show (((x + p - y : Nat)) : Int) = (x : Int) - (y : Int) + (p : Int) by omega]), rfl⟩

theorem rootc_core (size k k' p gp gb : Nat) (back : Bool) (w : World) (hp : 3 < p) (hp2 : p < 2147483648) (hs : 0 < size) (hk : k < size) (hsz : size ≤ 64) (hc : w.cell? ⟨gp, 0, none⟩ = some (.int .i64 (p : Nat))) (hb : w.cell? ⟨gb, 0, none⟩ = some (.bool back))
    (hk' : Hid (back = true → ((size : Int) - (k : Int)) % (size : Int) = (k' : Int))) (hk2 : Hid (back = false → k' = k)) (hk3 : k' ≤ 64) (res : Nat) (hres : Hid (pw 3 ((p - 1) / size * k') p = res)) :
    Calls Tryd.prog 27 #[.int .i64 (size : Nat), .int .i64 (k : Nat), .pointer (some ⟨gb, 0, none⟩), .pointer (some ⟨gp, 0, none⟩)] w fun e w' => e = .returned (.int .i64 (res : Nat)) ∧ ∃ q, w' = w.drewN q := by
  have hs0 : (0 : Int) < (size : Int) := by omega
  have hd : (p - 1) / size ≤ p - 1 := Nat.div_le_self _ _
  have hm : (p - 1) / size * k' ≤ 2147483648 * 64 := Nat.mul_le_mul (by omega) (by omega)
  have e1 : ((p : Int) - 1) / (size : Int) * (k' : Int) = (((p - 1) / size * k' : Nat) : Int) := by
    rw [Int.natCast_mul, Int.natCast_ediv, show ((p - 1 : Nat) : Int) = (p : Int) - 1 by omega]
  have m1 : 0 ≤ ((p : Int) - 1) / (size : Int) * (k' : Int) := by rw [e1]; omega
  have m2 : ((p : Int) - 1) / (size : Int) * (k' : Int) ≤ 1000000000000 := by rw [e1]; omega
  have CP := fun w' => power_any 3 ((p - 1) / size * k') p w' (by omega) hp2 (by omega) (by omega) res hres
  rw [← e1] at CP
  have HCP := Lib.hid CP
  have m3 : 0 ≤ ((p : Int) - 1) / (size : Int) := Int.ediv_nonneg (by omega) (by omega)
  clear CP hm hd hres e1
  cases back
  · obtain rfl : k' = k := hk2.out rfl
    clear hk' hk2
    go_enter Tryd.func27, Tryd.ntmps27
    go_wp2_with fail
    go_quiet ((go_at_call 28; exact Calls.quiet_of_same (HCP.out _)))
    go_wp2_with fail
    go_ret
    exact ⟨rfl, _, rfl⟩
  · have e2 := hk'.out rfl
    clear hk' hk2
    go_enter Tryd.func27, Tryd.ntmps27
    go_wp2_with fail
    go_quiet ((go_at_call 28; exact Calls.quiet_of_same (HCP.out _)))
    go_wp2_with fail
    go_ret
    exact ⟨rfl, _, rfl⟩
theorem rootc_any (size k p gp gb : Nat) (back : Bool) (w : World) (hp : 3 < p) (hp2 : p < 2147483648) (hs : 0 < size) (hk : k < size) (hsz : size ≤ 64) (hc : w.cell? ⟨gp, 0, none⟩ = some (.int .i64 (p : Nat))) (hb : w.cell? ⟨gb, 0, none⟩ = some (.bool back)) (res : Nat) (hres : Hid (root p back size k = res)) :
    Calls Tryd.prog 27 #[.int .i64 (size : Nat), .int .i64 (k : Nat), .pointer (some ⟨gb, 0, none⟩), .pointer (some ⟨gp, 0, none⟩)] w fun e w' => e = .returned (.int .i64 (res : Nat)) ∧ ∃ q, w' = w.drewN q := by
  have hm : (size - k) % size < size := Nat.mod_lt _ hs
  refine rootc_core size k (if back then (size - k) % size else k) p gp gb back w hp hp2 hs hk hsz hc hb ?_ ?_ (by split <;> omega) res hres
  · refine Lib.hid fun h => ?_
    rw [h, if_pos rfl, Int.natCast_emod, Int.natCast_sub (by omega)]
  · exact Lib.hid fun h => by rw [h]; rfl

/-- Is n the size of a transform? -/
def isLen (n : Nat) : Bool := decide (n = 1 ∨ n = 2 ∨ n = 4 ∨ n = 8 ∨ n = 16 ∨ n = 32 ∨ n = 64)
theorem i64_and (a c : Nat) (ha : a < 9223372036854775808) (hc : c < 9223372036854775808) : bits .and .i64 (a : Int) (c : Int) = ((a &&& c : Nat) : Int) := by
  have ofn : ∀ a : Nat, a < 9223372036854775808 → (BitVec.ofInt 64 (a : Int)).toNat = a := fun a ha => by rw [BitVec.ofInt_natCast, BitVec.toNat_ofNat]; exact Nat.mod_eq_of_lt (by omega)
  have hx : a &&& c < 2 ^ 63 := Nat.and_lt_two_pow _ (by omega)
  show IntKind.i64.wrap ((BitVec.ofInt 64 (a : Int) &&& BitVec.ofInt 64 (c : Int)).toNat : Int) = _
  rw [BitVec.toNat_and, ofn a ha, ofn c hc, IntKind.wrap_i64]
  omega
theorem len_bits : ∀ n, n < 65 → 0 < n → (n &&& (n - 1) == 0) = isLen n := by decide
theorem ret_bool {a b : Bool} (h : a = b) : Ending.returned (.bool a) = .returned (.bool b) := by rw [h]
theorem length_any (n : Nat) (w : World) (hn : n < 9223372036854775808) : Calls Tryd.prog 11 #[.int .i64 (n : Nat)] w fun e w' => e = .returned (.bool (isLen n)) ∧ w' = w := by
  have HZ : Hid (1 ≤ n ∧ n ≤ 64 → (bits .and .i64 (n : Int) ((n : Int) - 1) == 0) = isLen n) := Lib.hid fun ⟨h1, h2⟩ => by
    have e := len_bits n (by omega) (by omega)
    rw [show (n : Int) - 1 = ((n - 1 : Nat) : Int) by omega, i64_and n (n - 1) (by omega) (by omega), ← e]
    cases h : (n &&& (n - 1) == 0) <;> simp at h ⊢ <;> omega
  have HN : Hid (¬ (1 ≤ n ∧ n ≤ 64) → isLen n = false) := Lib.hid fun h => by
    unfold isLen
    exact decide_eq_false (by omega)
  generalize isLen n = v at *
  go_enter Tryd.func11, Tryd.ntmps11
  go_wp2_with fail
  · go_ret
    exact ⟨ret_bool (HZ.out (by omega)), rfl⟩
  · go_ret
    exact ⟨ret_bool (HN.out (by omega)).symm, rfl⟩
  · go_ret
    exact ⟨ret_bool (HN.out (by omega)).symm, rfl⟩
end Go.Proofs.YtgeebjfbcjhifaaDoor
