/- Proved here: contracts of the program's Join, Whole, Kind, Next. -/
import Derived.Test.YtjjfkidddjcdcaaDoorMake
namespace Go.Proofs.YtjjfkidddjcdcaaDoor
open Go.ChangeShapes Go.WideShapes Go.ChangeAt Go.RowKit
open Go.Proofs (TabAt)

def wordOf (neg : Bool) (x f : Nat) : Nat := (if neg then 9223372036854775808 else 0) + x * 4503599627370496 + f

theorem join_bad (neg : Bool) (exp : Int) (fr : Nat) (w : World) (h : exp < 0 ∨ 2047 < exp ∨ 4503599627370495 < fr) :
    Calls Tryd.prog 18 #[.bool neg, .int .i64 exp, .int .u64 fr] w fun e w' => e = .returned (.tuple #[.float .f64 0, .int .i64 3]) ∧ w' = w := by
  by_cases h1 : exp < 0
  · go_enter Tryd.func18, Tryd.ntmps18
    go_wp2_with fail
    go_ret2
    exact ⟨rfl, rfl⟩
  by_cases h2 : 2047 < exp
  · go_enter Tryd.func18, Tryd.ntmps18
    go_wp2_with fail
    go_ret2
    exact ⟨rfl, rfl⟩
  have h3 : 4503599627370495 < fr := by omega
  clear h
  go_enter Tryd.func18, Tryd.ntmps18
  go_wp2_with fail
  go_ret2
  exact ⟨rfl, rfl⟩

theorem or_join (x f : Nat) (hx : x ≤ 2047) (hf : f ≤ 4503599627370495) : bits .or .u64 ((x : Int) * 4503599627370496) (f : Int) = ((x * 4503599627370496 + f : Nat) : Int) := by
  have := u64_or_nat (x * 4503599627370496) f (by omega) (by omega)
  rw [nat_join 52 _ f (Nat.mul_mod_left _ _) (by omega)] at this
  exact this

theorem join_ok (neg : Bool) (x f : Nat) (w : World) (hx : x ≤ 2047) (hf : f ≤ 4503599627370495) :
    Calls Tryd.prog 18 #[.bool neg, .int .i64 x, .int .u64 f] w fun e w' => e = .returned (.tuple #[.float .f64 (wordOf neg x f), .int .i64 0]) ∧ w' = w := by
  have cf := call_float
  have ho := or_join x f hx hf
  obtain ⟨V, hV⟩ : ∃ V, x * 4503599627370496 + f = V := ⟨_, rfl⟩
  rw [hV] at ho
  have hw : Hid (wordOf neg x f = (if neg then 9223372036854775808 else 0) + V) := by unfold Hid wordOf; rw [← hV]; omega
  rw [hw.out]
  have hVb : V < 9223372036854775808 := by omega
  have hs := or_sign V hVb
  have hn : (9223372036854775808 + (V : Int)).toNat = 9223372036854775808 + V := by omega
  have hn0 : (0 : Nat) + V = V := by omega
  clear hV hw
  cases neg
  · go_enter Tryd.func18, Tryd.ntmps18
    go_wp2_with fail
    all_goals first | (exfalso; omega) | skip
    go_ret2
    exact ⟨by simp, rfl⟩
  · go_enter Tryd.func18, Tryd.ntmps18
    go_wp2_with fail
    all_goals first | (exfalso; omega) | skip
    go_ret2
    exact ⟨by simp, rfl⟩
end Go.Proofs.YtjjfkidddjcdcaaDoor
