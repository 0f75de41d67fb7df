/- Proved here: contracts of package chance's told and check at this program. Conditions: as each theorem says. -/
import Derived.Test.YtjjfkidddjcdcaaDoorTape
namespace Go.Proofs.YtjjfkidddjcdcaaDoor
open Go.ChangeShapes Go.WideShapes Go.ChangeAt Go.RowKit

theorem told_bool_short (t n c at_ : Nat) (A : Option Addr) (x : Bool) (w : World) (h : Tape w t A n c at_ true) :
    Calls Tryd.prog 56 #[.pointer (some ⟨t, 0, none⟩), .bool x] w fun e w' => e = .returned (.tuple #[.bool false, .int .i64 0, .agg #[.int .i64 9, .int .i64 n]]) ∧ Below w.heap.size w w' := by
  have h0 : w.cell? ⟨t, 0, none⟩ = some (.slice A n c) := h.cell 0
  have h2 : w.cell? ⟨t, 2, none⟩ = some (.bool true) := h.cell 2
  have hlt := h.lt
  go_enter Tryd.func56, Tryd.ntmps56
  go_wp2_with fail
  go_region
  go_wp2_with fail
  exact bodyPost_ret (v := .tuple #[.bool false, .int .i64 0, .agg #[.int .i64 9, .int .i64 n]]) (by simp [results, Tryd.results56, go_sem]) rfl ⟨rfl, ((Below.refl _ _).alloc (Nat.le_refl _) _).drew⟩

theorem told_bool_ok (t n c at_ : Nat) (A : Option Addr) (x : Bool) (w : World) (h : Tape w t A n c at_ false) :
    Calls Tryd.prog 56 #[.pointer (some ⟨t, 0, none⟩), .bool x] w fun e w' => e = .returned (.tuple #[.bool x, .int .i64 at_, .agg #[.int .i64 0, .int .i64 0]]) ∧ Below w.heap.size w w' := by
  have h1 : w.cell? ⟨t, 1, none⟩ = some (.int .i64 at_) := h.cell 1
  have h2 : w.cell? ⟨t, 2, none⟩ = some (.bool false) := h.cell 2
  have hlt := h.lt
  go_enter Tryd.func56, Tryd.ntmps56
  go_wp2_with fail
  go_region
  go_wp2_with fail
  exact bodyPost_ret (v := .tuple #[.bool x, .int .i64 at_, .agg #[.int .i64 0, .int .i64 0]]) (by simp [results, Tryd.results56, go_sem]) rfl ⟨rfl, ((Below.refl _ _).alloc (Nat.le_refl _) _).drew⟩

theorem told_int_short (t n c at_ : Nat) (A : Option Addr) (x : Int) (w : World) (h : Tape w t A n c at_ true) :
    Calls Tryd.prog 58 #[.pointer (some ⟨t, 0, none⟩), .int .i64 x] w fun e w' => e = .returned (.tuple #[.int .i64 0, .int .i64 0, .agg #[.int .i64 9, .int .i64 n]]) ∧ Below w.heap.size w w' := by
  have h0 : w.cell? ⟨t, 0, none⟩ = some (.slice A n c) := h.cell 0
  have h2 : w.cell? ⟨t, 2, none⟩ = some (.bool true) := h.cell 2
  have hlt := h.lt
  go_enter Tryd.func58, Tryd.ntmps58
  go_wp2_with fail
  go_region
  go_wp2_with fail
  exact bodyPost_ret (v := .tuple #[.int .i64 0, .int .i64 0, .agg #[.int .i64 9, .int .i64 n]]) (by simp [results, Tryd.results58, go_sem]) rfl ⟨rfl, ((Below.refl _ _).alloc (Nat.le_refl _) _).drew⟩

theorem told_int_ok (t n c at_ : Nat) (A : Option Addr) (x : Int) (w : World) (h : Tape w t A n c at_ false) :
    Calls Tryd.prog 58 #[.pointer (some ⟨t, 0, none⟩), .int .i64 x] w fun e w' => e = .returned (.tuple #[.int .i64 x, .int .i64 at_, .agg #[.int .i64 0, .int .i64 0]]) ∧ Below w.heap.size w w' := by
  have h1 : w.cell? ⟨t, 1, none⟩ = some (.int .i64 at_) := h.cell 1
  have h2 : w.cell? ⟨t, 2, none⟩ = some (.bool false) := h.cell 2
  have hlt := h.lt
  go_enter Tryd.func58, Tryd.ntmps58
  go_wp2_with fail
  go_region
  go_wp2_with fail
  exact bodyPost_ret (v := .tuple #[.int .i64 x, .int .i64 at_, .agg #[.int .i64 0, .int .i64 0]]) (by simp [results, Tryd.results58, go_sem]) rfl ⟨rfl, ((Below.refl _ _).alloc (Nat.le_refl _) _).drew⟩

theorem told_float_short (t n c at_ : Nat) (A : Option Addr) (x : Nat) (w : World) (h : Tape w t A n c at_ true) :
    Calls Tryd.prog 95 #[.pointer (some ⟨t, 0, none⟩), .float .f64 x] w fun e w' => e = .returned (.tuple #[.float .f64 0, .int .i64 0, .agg #[.int .i64 9, .int .i64 n]]) ∧ Below w.heap.size w w' := by
  have h0 : w.cell? ⟨t, 0, none⟩ = some (.slice A n c) := h.cell 0
  have h2 : w.cell? ⟨t, 2, none⟩ = some (.bool true) := h.cell 2
  have hlt := h.lt
  go_enter Tryd.func95, Tryd.ntmps95
  go_wp2_with fail
  go_region
  go_wp2_with fail
  exact bodyPost_ret (v := .tuple #[.float .f64 0, .int .i64 0, .agg #[.int .i64 9, .int .i64 n]]) (by simp [results, Tryd.results95, go_sem]) rfl ⟨rfl, ((Below.refl _ _).alloc (Nat.le_refl _) _).drew⟩

theorem told_float_ok (t n c at_ : Nat) (A : Option Addr) (x : Nat) (w : World) (h : Tape w t A n c at_ false) :
    Calls Tryd.prog 95 #[.pointer (some ⟨t, 0, none⟩), .float .f64 x] w fun e w' => e = .returned (.tuple #[.float .f64 x, .int .i64 at_, .agg #[.int .i64 0, .int .i64 0]]) ∧ Below w.heap.size w w' := by
  have h1 : w.cell? ⟨t, 1, none⟩ = some (.int .i64 at_) := h.cell 1
  have h2 : w.cell? ⟨t, 2, none⟩ = some (.bool false) := h.cell 2
  have hlt := h.lt
  go_enter Tryd.func95, Tryd.ntmps95
  go_wp2_with fail
  go_region
  go_wp2_with fail
  exact bodyPost_ret (v := .tuple #[.float .f64 x, .int .i64 at_, .agg #[.int .i64 0, .int .i64 0]]) (by simp [results, Tryd.results95, go_sem]) rfl ⟨rfl, ((Below.refl _ _).alloc (Nat.le_refl _) _).drew⟩

theorem told_slice_short (t n c at_ : Nat) (A : Option Addr) (B : Option Addr) (m d : Nat) (w : World) (h : Tape w t A n c at_ true) :
    Calls Tryd.prog 91 #[.pointer (some ⟨t, 0, none⟩), .slice B m d] w fun e w' => e = .returned (.tuple #[.slice none 0 0, .int .i64 0, .agg #[.int .i64 9, .int .i64 n]]) ∧ Below w.heap.size w w' := by
  have h0 : w.cell? ⟨t, 0, none⟩ = some (.slice A n c) := h.cell 0
  have h2 : w.cell? ⟨t, 2, none⟩ = some (.bool true) := h.cell 2
  have hlt := h.lt
  go_enter Tryd.func91, Tryd.ntmps91
  go_wp2_with fail
  go_region
  go_wp2_with fail
  exact bodyPost_ret (v := .tuple #[.slice none 0 0, .int .i64 0, .agg #[.int .i64 9, .int .i64 n]]) (by simp [results, Tryd.results91, go_sem]) rfl ⟨rfl, ((Below.refl _ _).alloc (Nat.le_refl _) _).drew⟩

theorem told_slice_ok (t n c at_ : Nat) (A : Option Addr) (B : Option Addr) (m d : Nat) (w : World) (h : Tape w t A n c at_ false) :
    Calls Tryd.prog 91 #[.pointer (some ⟨t, 0, none⟩), .slice B m d] w fun e w' => e = .returned (.tuple #[.slice B m d, .int .i64 at_, .agg #[.int .i64 0, .int .i64 0]]) ∧ Below w.heap.size w w' := by
  have h1 : w.cell? ⟨t, 1, none⟩ = some (.int .i64 at_) := h.cell 1
  have h2 : w.cell? ⟨t, 2, none⟩ = some (.bool false) := h.cell 2
  have hlt := h.lt
  go_enter Tryd.func91, Tryd.ntmps91
  go_wp2_with fail
  go_region
  go_wp2_with fail
  exact bodyPost_ret (v := .tuple #[.slice B m d, .int .i64 at_, .agg #[.int .i64 0, .int .i64 0]]) (by simp [results, Tryd.results91, go_sem]) rfl ⟨rfl, ((Below.refl _ _).alloc (Nat.le_refl _) _).drew⟩

def OkBit (x : Int) : Prop := x = 0 ∨ x = 1

set_option maxHeartbeats 400000 in
theorem check_many (n c : Nat) (A : Option Addr) (w : World) (hn : 2000 < n) (hn2 : n ≤ 9223372036854775807) :
    Calls Tryd.prog 55 #[.slice A n c] w fun e w' => e = .returned (.agg #[.int .i64 2, .int .i64 0]) ∧ Below w.heap.size w w' := by
  go_enter Tryd.func55, Tryd.ntmps55
  go_wp2_with fail
  exact bodyPost_ret (v := .agg #[.int .i64 2, .int .i64 0]) (by simp [results, Tryd.results55, go_sem]) rfl ⟨rfl, by go_grown⟩

set_option maxHeartbeats 400000 in
theorem check_ok (n c : Nat) (A : Option Addr) (f : Nat → Int) (w : World) (hn : n ≤ 2000) (hR : Row w A n f) (hok : ∀ j, j < n → OkBit (f j)) :
    Calls Tryd.prog 55 #[.slice A n c] w fun e w' => e = .returned (.agg #[.int .i64 0, .int .i64 0]) ∧ Below w.heap.size w w' := by
  have HR := Lib.hid hR
  have HO := Lib.hid hok
  clear hR hok
  go_enter Tryd.func55, Tryd.ntmps55
  go_wp2_with fail
  go_loop [3, 4, 11] (fun v3 v4 v11 => ∃ k : Nat, k ≤ n ∧ v11 = .int .i64 k) (fun _ _ v11 => n - (intOf v11).toNat)
  case atStart => exact ⟨0, by omega, rfl⟩
  case round =>
    obtain ⟨k, hk, rfl⟩ := hrel
    by_cases hlt : k < n
    · obtain ⟨b, off, rfl, hb, hc⟩ := HR.out (by omega)
      have hx := hc k hlt
      have ho := HO.out k hlt
      have hne : ¬ b = w.heap.size := by omega
      clear hc
      generalize f k = x at *
      rcases ho with h0 | h1
      · subst h0
        go_wp2_with fail
        go_round
        case rel => exact ⟨k + 1, by omega, by go_num⟩
        case measure => simp [intOf]; omega
      · subst h1
        go_wp2_with fail
        go_round
        case rel => exact ⟨k + 1, by omega, by go_num⟩
        case measure => simp [intOf]; omega
    · go_wp2_with fail
      exact bodyPost_ret (v := .agg #[.int .i64 0, .int .i64 0]) (by simp [results, Tryd.results55, go_sem]) rfl ⟨rfl, by go_grown⟩

set_option maxHeartbeats 400000 in
theorem check_bad (n c i : Nat) (A : Option Addr) (f : Nat → Int) (w : World) (hn : n ≤ 2000) (hi : i < n) (hR : Row w A n f) (hok : ∀ j, j < i → OkBit (f j)) (hbad : ¬ OkBit (f i)) :
    Calls Tryd.prog 55 #[.slice A n c] w fun e w' => e = .returned (.agg #[.int .i64 3, .int .i64 i]) ∧ Below w.heap.size w w' := by
  have HR := Lib.hid hR
  have HO := Lib.hid hok
  have HB := Lib.hid hbad
  clear hR hok hbad
  go_enter Tryd.func55, Tryd.ntmps55
  go_wp2_with fail
  go_loop [3, 4, 11] (fun v3 v4 v11 => ∃ k : Nat, k ≤ i ∧ v11 = .int .i64 k) (fun _ _ v11 => n - (intOf v11).toNat)
  case atStart => exact ⟨0, by omega, rfl⟩
  case round =>
    obtain ⟨k, hk, rfl⟩ := hrel
    obtain ⟨b, off, rfl, hb, hc⟩ := HR.out (by omega)
    have hx := hc k (by omega)
    have hne : ¬ b = w.heap.size := by omega
    clear hc
    by_cases hlt : k < i
    · have ho := HO.out k hlt
      generalize f k = x at *
      rcases ho with h0 | h1
      · subst h0
        go_wp2_with fail
        go_round
        case rel => exact ⟨k + 1, by omega, by go_num⟩
        case measure => simp [intOf]; omega
      · subst h1
        go_wp2_with fail
        go_round
        case rel => exact ⟨k + 1, by omega, by go_num⟩
        case measure => simp [intOf]; omega
    · obtain rfl : k = i := by omega
      have hb := HB.out
      generalize f k = x at *
      have z0 : (x != 0) = true := by simp; intro h; exact hb (.inl h)
      have z1 : (x != 1) = true := by simp; intro h; exact hb (.inr h)
      clear hb HB
      go_wp2_with fail
      exact bodyPost_ret (v := .agg #[.int .i64 3, .int .i64 k]) (by simp [results, Tryd.results55, go_sem]) rfl ⟨rfl, by go_grown⟩
end Go.Proofs.YtjjfkidddjcdcaaDoor
