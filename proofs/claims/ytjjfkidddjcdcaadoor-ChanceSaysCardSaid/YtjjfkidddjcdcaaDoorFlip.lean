/- Proved here: contracts of package chance's tape at this program: the next bit, flips, picks. Conditions: as each theorem says.
   Proved here: contracts of package chance's told and check at this program. Conditions: as each theorem says.
   Proved here: contracts of package chance's Flip and Pick at this program. Conditions: as each theorem says. -/
import Derived.Test.YtjjfkidddjcdcaaDoorDig
import Derived.Test.YtjjfkidddjcdcaaDoorLaid
import Derived.RegionTactic
import Derived.ChangeAlike
import Derived.Deep.LoopGhost
namespace Go.Proofs.YtjjfkidddjcdcaaDoor
open Go.ChangeShapes Go.WideShapes Go.ChangeAt Go.RowKit

/-- The tape in block t: its bits, its place, whether it fell short. -/
def Tape (w : World) (t : Nat) (A : Option Addr) (n c at_ : Nat) (short : Bool) : Prop := Whole w t 85 #[.slice A n c, .int .i64 at_, .bool short]

/-- .. and nothing else that was there has turned. -/
def To (w w' : World) (t : Nat) (A : Option Addr) (n c at_ : Nat) (short : Bool) : Prop := Tape w' t A n c at_ short ∧ w.grownBy w' (some t)

theorem To.drewN {w w' : World} {t : Nat} {A : Option Addr} {n c at_ : Nat} {short : Bool} (h : To w w' t A n c at_ short) (k : Nat) : To w (w'.drewN k) t A n c at_ short := ⟨h.1.drewN k, grown_drewN h.2 k⟩
theorem To.refl {w : World} {t : Nat} {A : Option Addr} {n c at_ : Nat} {short : Bool} (h : Tape w t A n c at_ short) : To w w t A n c at_ short := ⟨h, grown_refl _ _⟩
theorem To.trans {a b w : World} {t : Nat} {A : Option Addr} {n c at_ at2 : Nat} {short sh2 : Bool} (h : To a b t A n c at_ short) (k : To b w t A n c at2 sh2) : To a w t A n c at2 sh2 := ⟨k.1, grown_trans h.2 k.2⟩
theorem To.setAt {w w' : World} {t : Nat} {A : Option Addr} {n c at_ : Nat} {short : Bool} (h : To w w' t A n c at_ short) (x : Int) (k : Nat) (hx : x = k) : To w (w'.setCell ⟨t, 1, none⟩ (.int .i64 x)) t A n c k short := by
  subst hx
  exact ⟨h.1.set 1 _, grown_set h.2 1 _⟩
theorem To.setShort {w w' : World} {t : Nat} {A : Option Addr} {n c at_ : Nat} {short : Bool} (h : To w w' t A n c at_ short) (s : Bool) : To w (w'.setCell ⟨t, 2, none⟩ (.bool s)) t A n c at_ s :=
  ⟨h.1.set 2 _, grown_set h.2 2 _⟩

theorem next_end (t n c at_ : Nat) (A : Option Addr) (short : Bool) (w : World) (h : Tape w t A n c at_ short) (hle : n ≤ at_) :
    Calls Tryd.prog 94 #[.pointer (some ⟨t, 0, none⟩)] w fun e w' => e = .returned (.int .i64 0) ∧ To w w' t A n c at_ true := by
  have h0 : w.cell? ⟨t, 0, none⟩ = some (.slice A n c) := h.cell 0
  have h1 : w.cell? ⟨t, 1, none⟩ = some (.int .i64 at_) := h.cell 1
  have h2 : w.cell? ⟨t, 2, none⟩ = some (.bool short) := h.cell 2
  have f2 := h.frozen 2
  have hd : decide (n ≤ at_) = true := by simpa using hle
  have H := Lib.hid h
  clear h
  go_enter Tryd.func94, Tryd.ntmps94
  go_wp2_with fail
  go_quiet (fail)
  go_wp2_with fail
  go_ret
  exact ⟨rfl, ((To.refl H.out).drewN _).setShort true⟩

theorem next_bit (t n c at_ : Nat) (A : Option Addr) (f : Nat → Int) (w : World) (h : Tape w t A n c at_ false) (hR : Row w A n f) (hA : Apart A n t) (hlt : at_ < n) (hn : n ≤ 1000000) :
    Calls Tryd.prog 94 #[.pointer (some ⟨t, 0, none⟩)] w fun e w' => e = .returned (.int .i64 (f at_)) ∧ To w w' t A n c (at_ + 1) false := by
  obtain ⟨b, off, rfl, hb, hc⟩ := hR (by omega)
  have hbt : b ≠ t := hA (by omega) _ rfl
  have hx := hc at_ hlt
  have h0 : w.cell? ⟨t, 0, none⟩ = some (.slice (some ⟨b, off, none⟩) n c) := h.cell 0
  have h1 : w.cell? ⟨t, 1, none⟩ = some (.int .i64 at_) := h.cell 1
  have f1 := h.frozen 1
  have hd : decide (n ≤ at_) = false := by simpa using hlt
  have H := Lib.hid h
  clear h hc hR hA
  generalize f at_ = x at *
  go_enter Tryd.func94, Tryd.ntmps94
  go_wp2_with fail
  go_quiet (fail)
  go_wp2_with fail
  go_quiet (fail)
  go_wp2_with fail
  go_ret
  exact ⟨rfl, (((To.refl H.out).drewN _).setAt _ _ (by omega)).drewN _⟩

/-- How a flip goes on bits: from place 'a' on, 'k' bits are left: what it says, where it stops, whether it fell short. -/
def flipS (f : Nat → Int) (q : Int) : Nat → Nat → Int → Bool × Nat × Bool
  | 0, a, p => (decide (q ≤ 2 * p), a, true)
  | k + 1, a, p =>
    if q ≤ 2 * p then
      if f a = 1 then (if 2 * p - q = 0 then (false, a + 1, false) else flipS f q k (a + 1) (2 * p - q)) else (decide (f a < 1), a + 1, false)
    else
      if f a = 0 then (if 2 * p = 0 then (false, a + 1, false) else flipS f q k (a + 1) (2 * p)) else (decide (f a < 0), a + 1, false)

def FlipRel (f : Nat → Int) (q : Int) (res : Bool × Nat × Bool) (w : World) (t : Nat) (A : Option Addr) (n c gk : Nat) (v1 : Value) (wr : World) : Prop :=
  (∃ (k a : Nat) (p : Int), gk = k + 1 ∧ a + k = n ∧ 0 ≤ p ∧ p ≤ q ∧ v1 = .int .i64 p ∧ flipS f q k a p = res ∧ To w wr t A n c a false) ∨
  (gk = 0 ∧ (∃ p : Int, v1 = .int .i64 p) ∧ res = (false, n, true) ∧ To w wr t A n c n true)

theorem ret_bool {a b : Bool} (h : a = b) : Ending.returned (.bool a) = .returned (.bool b) := by rw [h]

set_option maxHeartbeats 1000000 in
theorem flip_any (t n c : Nat) (A : Option Addr) (f : Nat → Int) (q : Int) (hn : n ≤ 1000000) (hq : 1 ≤ q) (hq2 : q ≤ 10000000)
    (k a : Nat) (p : Int) (w : World) (hk : a + k = n) (hp : 0 ≤ p) (hpq : p ≤ q) (hT : Tape w t A n c a false) (hR : Row w A n f) (hA : Apart A n t) (res : Bool × Nat × Bool) (hres : Hid (flipS f q k a p = res)) :
    Calls Tryd.prog 57 #[.pointer (some ⟨t, 0, none⟩), .int .i64 p, .int .i64 q] w fun e w' => e = .returned (.bool res.1) ∧ To w w' t A n c res.2.1 res.2.2 := by
  have HS : FlipRel f q res w t A n c (k + 1) (.int .i64 p) w := .inl ⟨k, a, p, rfl, hk, hp, hpq, rfl, hres.out, To.refl hT⟩
  have HR := Lib.hid hR
  have HA := Lib.hid hA
  clear hT hR hA hres hp hpq hk
  have HS' := Lib.hid HS
  clear HS
  go_enter Tryd.func57, Tryd.ntmps57
  go_wp2_with fail
  go_loopg [1, 7, 8] (k + 1) (fun gk v1 v7 v8 wr => FlipRel f q res w t A n c gk v1 wr)
  case atStart => exact HS'.out
  case round =>
    clear HS'
    rcases hrel with ⟨k', a', p', rfl, hk, hp, hpq, rfl, hres, hTo⟩ | ⟨rfl, ⟨p', rfl⟩, hres, hTo⟩
    · have h2 : wr.cell? ⟨t, 2, none⟩ = some (.bool false) := hTo.1.cell 2
      have HTo := Lib.hid hTo
      clear hTo
      rcases k' with _ | k'
      · -- no bit is left
        have C := Lib.hid (next_end t n c a' A false wr HTo.out.1 (by omega))
        by_cases hd : q ≤ 2 * p'
        · have hres' : res = (true, a', true) := by rw [← hres]; unfold flipS; rw [decide_eq_true hd]
          subst hres'
          clear hres
          go_wp2_with (go_at_call 94; refine C.out.mono ?_; rintro e w2 ⟨rfl, hT2⟩)
          go_ret
          exact ⟨rfl, HTo.out.trans hT2⟩
        · have hres' : res = (false, a', true) := by rw [← hres]; unfold flipS; rw [decide_eq_false hd]
          subst hres'
          clear hres
          by_cases h0 : p' = 0
          · subst h0
            go_wp2_with (go_at_call 94; refine C.out.mono ?_; rintro e w2 ⟨rfl, hT2⟩)
            go_ret
            exact ⟨rfl, HTo.out.trans hT2⟩
          · have z : (2 * p' == 0) = false := by simp; omega
            have z' : (p' * 2 == 0) = false := by simp; omega
            go_wp2_with (go_at_call 94; refine C.out.mono ?_; rintro e w2 ⟨rfl, hT2⟩)
            go_roundg 0
            case measure => omega
            case rel => exact .inr ⟨rfl, ⟨_, rfl⟩, by rw [show a' = n by omega], by have := HTo.out.trans hT2; rwa [show a' = n by omega] at this⟩
      · have C := Lib.hid (next_bit t n c a' A f wr HTo.out.1 (HR.out.grown HTo.out.2 HA.out) HA.out (by omega) hn)
        unfold flipS at hres
        generalize hx : f a' = x at *
        clear hx
        by_cases hd : q ≤ 2 * p'
        · rw [if_pos hd] at hres
          by_cases h1 : x = 1
          · rw [if_pos h1] at hres
            by_cases h3 : 2 * p' - q = 0
            · rw [if_pos h3] at hres
              subst hres h1
              have z : (2 * p' - q == 0) = true := by simp; omega
              have z' : (p' * 2 - q == 0) = true := by simp; omega
              clear h3
              go_wp2_with (go_at_call 94; refine C.out.mono ?_; rintro e w2 ⟨rfl, hT2⟩)
              go_ret
              exact ⟨rfl, HTo.out.trans hT2⟩
            · rw [if_neg h3] at hres
              subst h1
              have z : (2 * p' - q == 0) = false := by simp; omega
              have z' : (p' * 2 - q == 0) = false := by simp; omega
              have HRES := Lib.hid hres
              clear hres
              go_wp2_with (go_at_call 94; refine C.out.mono ?_; rintro e w2 ⟨rfl, hT2⟩)
              go_roundg (k' + 1)
              case measure => omega
              case rel => exact .inl ⟨k', a' + 1, 2 * p' - q, rfl, by omega, by omega, by omega, by rw [Int.mul_comm 2 p'], HRES.out, HTo.out.trans hT2⟩
          · rw [if_neg h1] at hres
            subst hres
            have z : (x != 1) = true := by simp; omega
            have zz : (x == 1) = false := by simp; omega
            go_wp2_with (go_at_call 94; refine C.out.mono ?_; rintro e w2 ⟨rfl, hT2⟩)
            go_ret
            exact ⟨rfl, HTo.out.trans hT2⟩
        · rw [if_neg hd] at hres
          by_cases h1 : x = 0
          · rw [if_pos h1] at hres
            by_cases h3 : 2 * p' = 0
            · rw [if_pos h3] at hres
              obtain rfl : p' = 0 := by omega
              subst hres h1
              clear h3
              go_wp2_with (go_at_call 94; refine C.out.mono ?_; rintro e w2 ⟨rfl, hT2⟩)
              go_ret
              exact ⟨rfl, HTo.out.trans hT2⟩
            · rw [if_neg h3] at hres
              subst h1
              have z : (2 * p' == 0) = false := by simp; omega
              have z' : (p' * 2 == 0) = false := by simp; omega
              have HRES := Lib.hid hres
              clear hres
              go_wp2_with (go_at_call 94; refine C.out.mono ?_; rintro e w2 ⟨rfl, hT2⟩)
              go_roundg (k' + 1)
              case measure => omega
              case rel => exact .inl ⟨k', a' + 1, 2 * p', rfl, by omega, by omega, by omega, by rw [Int.mul_comm 2 p'], HRES.out, HTo.out.trans hT2⟩
          · rw [if_neg h1] at hres
            subst hres
            have z : (x != 0) = true := by simp; omega
            have zz : (x == 0) = false := by simp; omega
            go_wp2_with (go_at_call 94; refine C.out.mono ?_; rintro e w2 ⟨rfl, hT2⟩)
            go_ret
            exact ⟨rfl, HTo.out.trans hT2⟩
    · have h2 : wr.cell? ⟨t, 2, none⟩ = some (.bool true) := hTo.1.cell 2
      have HTo := Lib.hid hTo
      subst hres
      clear hTo
      go_wp2_with fail
      go_ret
      exact ⟨rfl, HTo.out⟩
end Go.Proofs.YtjjfkidddjcdcaaDoor

namespace Go.Proofs.YtjjfkidddjcdcaaDoor
open Go.ChangeShapes Go.WideShapes Go.ChangeAt Go.RowKit

theorem told_bool_short (t n c at_ : Nat) (A : Option Addr) (x : Bool) (w : World) (h : Tape w t A n c at_ true) :
    Calls Tryd.prog 56 #[.pointer (some ⟨t, 0, none⟩), .bool x] w fun e w' => e = .returned (.tuple #[.bool false, .int .i64 0, .agg #[.int .i64 9, .int .i64 n]]) ∧ Below w.heap.size w w' := by
  have h0 : w.cell? ⟨t, 0, none⟩ = some (.slice A n c) := h.cell 0
  have h2 : w.cell? ⟨t, 2, none⟩ = some (.bool true) := h.cell 2
  have hlt := h.lt
  go_enter Tryd.func56, Tryd.ntmps56
  go_wp2_with fail
  go_region
  go_wp2_with fail
  exact bodyPost_ret (v := .tuple #[.bool false, .int .i64 0, .agg #[.int .i64 9, .int .i64 n]]) (by simp [results, Tryd.results56, go_sem]) rfl ⟨rfl, ((Below.refl _ _).alloc (Nat.le_refl _) _).drew⟩

theorem told_bool_ok (t n c at_ : Nat) (A : Option Addr) (x : Bool) (w : World) (h : Tape w t A n c at_ false) :
    Calls Tryd.prog 56 #[.pointer (some ⟨t, 0, none⟩), .bool x] w fun e w' => e = .returned (.tuple #[.bool x, .int .i64 at_, .agg #[.int .i64 0, .int .i64 0]]) ∧ Below w.heap.size w w' := by
  have h1 : w.cell? ⟨t, 1, none⟩ = some (.int .i64 at_) := h.cell 1
  have h2 : w.cell? ⟨t, 2, none⟩ = some (.bool false) := h.cell 2
  have hlt := h.lt
  go_enter Tryd.func56, Tryd.ntmps56
  go_wp2_with fail
  go_region
  go_wp2_with fail
  exact bodyPost_ret (v := .tuple #[.bool x, .int .i64 at_, .agg #[.int .i64 0, .int .i64 0]]) (by simp [results, Tryd.results56, go_sem]) rfl ⟨rfl, ((Below.refl _ _).alloc (Nat.le_refl _) _).drew⟩

theorem told_int_short (t n c at_ : Nat) (A : Option Addr) (x : Int) (w : World) (h : Tape w t A n c at_ true) :
    Calls Tryd.prog 58 #[.pointer (some ⟨t, 0, none⟩), .int .i64 x] w fun e w' => e = .returned (.tuple #[.int .i64 0, .int .i64 0, .agg #[.int .i64 9, .int .i64 n]]) ∧ Below w.heap.size w w' := by
  have h0 : w.cell? ⟨t, 0, none⟩ = some (.slice A n c) := h.cell 0
  have h2 : w.cell? ⟨t, 2, none⟩ = some (.bool true) := h.cell 2
  have hlt := h.lt
  go_enter Tryd.func58, Tryd.ntmps58
  go_wp2_with fail
  go_region
  go_wp2_with fail
  exact bodyPost_ret (v := .tuple #[.int .i64 0, .int .i64 0, .agg #[.int .i64 9, .int .i64 n]]) (by simp [results, Tryd.results58, go_sem]) rfl ⟨rfl, ((Below.refl _ _).alloc (Nat.le_refl _) _).drew⟩

theorem told_int_ok (t n c at_ : Nat) (A : Option Addr) (x : Int) (w : World) (h : Tape w t A n c at_ false) :
    Calls Tryd.prog 58 #[.pointer (some ⟨t, 0, none⟩), .int .i64 x] w fun e w' => e = .returned (.tuple #[.int .i64 x, .int .i64 at_, .agg #[.int .i64 0, .int .i64 0]]) ∧ Below w.heap.size w w' := by
  have h1 : w.cell? ⟨t, 1, none⟩ = some (.int .i64 at_) := h.cell 1
  have h2 : w.cell? ⟨t, 2, none⟩ = some (.bool false) := h.cell 2
  have hlt := h.lt
  go_enter Tryd.func58, Tryd.ntmps58
  go_wp2_with fail
  go_region
  go_wp2_with fail
  exact bodyPost_ret (v := .tuple #[.int .i64 x, .int .i64 at_, .agg #[.int .i64 0, .int .i64 0]]) (by simp [results, Tryd.results58, go_sem]) rfl ⟨rfl, ((Below.refl _ _).alloc (Nat.le_refl _) _).drew⟩

theorem told_float_short (t n c at_ : Nat) (A : Option Addr) (x : Nat) (w : World) (h : Tape w t A n c at_ true) :
    Calls Tryd.prog 95 #[.pointer (some ⟨t, 0, none⟩), .float .f64 x] w fun e w' => e = .returned (.tuple #[.float .f64 0, .int .i64 0, .agg #[.int .i64 9, .int .i64 n]]) ∧ Below w.heap.size w w' := by
  have h0 : w.cell? ⟨t, 0, none⟩ = some (.slice A n c) := h.cell 0
  have h2 : w.cell? ⟨t, 2, none⟩ = some (.bool true) := h.cell 2
  have hlt := h.lt
  go_enter Tryd.func95, Tryd.ntmps95
  go_wp2_with fail
  go_region
  go_wp2_with fail
  exact bodyPost_ret (v := .tuple #[.float .f64 0, .int .i64 0, .agg #[.int .i64 9, .int .i64 n]]) (by simp [results, Tryd.results95, go_sem]) rfl ⟨rfl, ((Below.refl _ _).alloc (Nat.le_refl _) _).drew⟩

theorem told_float_ok (t n c at_ : Nat) (A : Option Addr) (x : Nat) (w : World) (h : Tape w t A n c at_ false) :
    Calls Tryd.prog 95 #[.pointer (some ⟨t, 0, none⟩), .float .f64 x] w fun e w' => e = .returned (.tuple #[.float .f64 x, .int .i64 at_, .agg #[.int .i64 0, .int .i64 0]]) ∧ Below w.heap.size w w' := by
  have h1 : w.cell? ⟨t, 1, none⟩ = some (.int .i64 at_) := h.cell 1
  have h2 : w.cell? ⟨t, 2, none⟩ = some (.bool false) := h.cell 2
  have hlt := h.lt
  go_enter Tryd.func95, Tryd.ntmps95
  go_wp2_with fail
  go_region
  go_wp2_with fail
  exact bodyPost_ret (v := .tuple #[.float .f64 x, .int .i64 at_, .agg #[.int .i64 0, .int .i64 0]]) (by simp [results, Tryd.results95, go_sem]) rfl ⟨rfl, ((Below.refl _ _).alloc (Nat.le_refl _) _).drew⟩

theorem told_slice_short (t n c at_ : Nat) (A : Option Addr) (B : Option Addr) (m d : Nat) (w : World) (h : Tape w t A n c at_ true) :
    Calls Tryd.prog 91 #[.pointer (some ⟨t, 0, none⟩), .slice B m d] w fun e w' => e = .returned (.tuple #[.slice none 0 0, .int .i64 0, .agg #[.int .i64 9, .int .i64 n]]) ∧ Below w.heap.size w w' := by
  have h0 : w.cell? ⟨t, 0, none⟩ = some (.slice A n c) := h.cell 0
  have h2 : w.cell? ⟨t, 2, none⟩ = some (.bool true) := h.cell 2
  have hlt := h.lt
  go_enter Tryd.func91, Tryd.ntmps91
  go_wp2_with fail
  go_region
  go_wp2_with fail
  exact bodyPost_ret (v := .tuple #[.slice none 0 0, .int .i64 0, .agg #[.int .i64 9, .int .i64 n]]) (by simp [results, Tryd.results91, go_sem]) rfl ⟨rfl, ((Below.refl _ _).alloc (Nat.le_refl _) _).drew⟩

theorem told_slice_ok (t n c at_ : Nat) (A : Option Addr) (B : Option Addr) (m d : Nat) (w : World) (h : Tape w t A n c at_ false) :
    Calls Tryd.prog 91 #[.pointer (some ⟨t, 0, none⟩), .slice B m d] w fun e w' => e = .returned (.tuple #[.slice B m d, .int .i64 at_, .agg #[.int .i64 0, .int .i64 0]]) ∧ Below w.heap.size w w' := by
  have h1 : w.cell? ⟨t, 1, none⟩ = some (.int .i64 at_) := h.cell 1
  have h2 : w.cell? ⟨t, 2, none⟩ = some (.bool false) := h.cell 2
  have hlt := h.lt
  go_enter Tryd.func91, Tryd.ntmps91
  go_wp2_with fail
  go_region
  go_wp2_with fail
  exact bodyPost_ret (v := .tuple #[.slice B m d, .int .i64 at_, .agg #[.int .i64 0, .int .i64 0]]) (by simp [results, Tryd.results91, go_sem]) rfl ⟨rfl, ((Below.refl _ _).alloc (Nat.le_refl _) _).drew⟩

def OkBit (x : Int) : Prop := x = 0 ∨ x = 1

set_option maxHeartbeats 400000 in
theorem check_many (n c : Nat) (A : Option Addr) (w : World) (hn : 2000 < n) (hn2 : n ≤ 9223372036854775807) :
    Calls Tryd.prog 55 #[.slice A n c] w fun e w' => e = .returned (.agg #[.int .i64 2, .int .i64 0]) ∧ Below w.heap.size w w' := by
  go_enter Tryd.func55, Tryd.ntmps55
  go_wp2_with fail
  exact bodyPost_ret (v := .agg #[.int .i64 2, .int .i64 0]) (by simp [results, Tryd.results55, go_sem]) rfl ⟨rfl, by go_grown⟩

set_option maxHeartbeats 400000 in
theorem check_ok (n c : Nat) (A : Option Addr) (f : Nat → Int) (w : World) (hn : n ≤ 2000) (hR : Row w A n f) (hok : ∀ j, j < n → OkBit (f j)) :
    Calls Tryd.prog 55 #[.slice A n c] w fun e w' => e = .returned (.agg #[.int .i64 0, .int .i64 0]) ∧ Below w.heap.size w w' := by
  have HR := Lib.hid hR
  have HO := Lib.hid hok
  clear hR hok
  go_enter Tryd.func55, Tryd.ntmps55
  go_wp2_with fail
  go_loop [3, 4, 11] (fun v3 v4 v11 => ∃ k : Nat, k ≤ n ∧ v11 = .int .i64 k) (fun _ _ v11 => n - (intOf v11).toNat)
  case atStart => exact ⟨0, by omega, rfl⟩
  case round =>
    obtain ⟨k, hk, rfl⟩ := hrel
    by_cases hlt : k < n
    · obtain ⟨b, off, rfl, hb, hc⟩ := HR.out (by omega)
      have hx := hc k hlt
      have ho := HO.out k hlt
      have hne : ¬ b = w.heap.size := by omega
      clear hc
      generalize f k = x at *
      rcases ho with h0 | h1
      · subst h0
        go_wp2_with fail
        go_round
        case rel => exact ⟨k + 1, by omega, by go_num⟩
        case measure => simp [intOf]; omega
      · subst h1
        go_wp2_with fail
        go_round
        case rel => exact ⟨k + 1, by omega, by go_num⟩
        case measure => simp [intOf]; omega
    · go_wp2_with fail
      exact bodyPost_ret (v := .agg #[.int .i64 0, .int .i64 0]) (by simp [results, Tryd.results55, go_sem]) rfl ⟨rfl, by go_grown⟩

set_option maxHeartbeats 400000 in
theorem check_bad (n c i : Nat) (A : Option Addr) (f : Nat → Int) (w : World) (hn : n ≤ 2000) (hi : i < n) (hR : Row w A n f) (hok : ∀ j, j < i → OkBit (f j)) (hbad : ¬ OkBit (f i)) :
    Calls Tryd.prog 55 #[.slice A n c] w fun e w' => e = .returned (.agg #[.int .i64 3, .int .i64 i]) ∧ Below w.heap.size w w' := by
  have HR := Lib.hid hR
  have HO := Lib.hid hok
  have HB := Lib.hid hbad
  clear hR hok hbad
  go_enter Tryd.func55, Tryd.ntmps55
  go_wp2_with fail
  go_loop [3, 4, 11] (fun v3 v4 v11 => ∃ k : Nat, k ≤ i ∧ v11 = .int .i64 k) (fun _ _ v11 => n - (intOf v11).toNat)
  case atStart => exact ⟨0, by omega, rfl⟩
  case round =>
    obtain ⟨k, hk, rfl⟩ := hrel
    obtain ⟨b, off, rfl, hb, hc⟩ := HR.out (by omega)
    have hx := hc k (by omega)
    have hne : ¬ b = w.heap.size := by omega
    clear hc
    by_cases hlt : k < i
    · have ho := HO.out k hlt
      generalize f k = x at *
      rcases ho with h0 | h1
      · subst h0
        go_wp2_with fail
        go_round
        case rel => exact ⟨k + 1, by omega, by go_num⟩
        case measure => simp [intOf]; omega
      · subst h1
        go_wp2_with fail
        go_round
        case rel => exact ⟨k + 1, by omega, by go_num⟩
        case measure => simp [intOf]; omega
    · obtain rfl : k = i := by omega
      have hb := HB.out
      generalize f k = x at *
      have z0 : (x != 0) = true := by simp; intro h; exact hb (.inl h)
      have z1 : (x != 1) = true := by simp; intro h; exact hb (.inr h)
      clear hb HB
      go_wp2_with fail
      exact bodyPost_ret (v := .agg #[.int .i64 3, .int .i64 k]) (by simp [results, Tryd.results55, go_sem]) rfl ⟨rfl, by go_grown⟩
end Go.Proofs.YtjjfkidddjcdcaaDoor

namespace Go.Proofs.YtjjfkidddjcdcaaDoor
open Go.ChangeShapes Go.WideShapes Go.ChangeAt Go.RowKit

/-- What is known of a new block behind a call that leaves what was there. -/
theorem kept_cell {w w' : World} (hb : Below w.heap.size w w') {g i : Nat} {v : Value} (hg : g < w.heap.size) (h : w.cell? ⟨g, i, none⟩ = some v) : w'.cell? ⟨g, i, none⟩ = some v := (hb.cell (p := ⟨g, i, none⟩) hg).trans h

/-- What Flip tells, of 0 < p < q. -/
def toldS (zero : Value) (res : Value × Nat × Bool) (n : Nat) : Value :=
  if res.2.2 then .tuple #[zero, .int .i64 0, .agg #[.int .i64 9, .int .i64 n]] else .tuple #[res.1, .int .i64 res.2.1, .agg #[.int .i64 0, .int .i64 0]]

/-- The result's cell behind all calls, and what was there before. -/
structure Held (w w' : World) : Prop where
  c0 : w'.cell? ⟨w.heap.size, 0, none⟩ = some (.int .i64 0)
  c1 : w'.cell? ⟨w.heap.size, 1, none⟩ = some (.int .i64 0)
  f0 : w'.frozen? ⟨w.heap.size, 0, none⟩ = false
  f1 : w'.frozen? ⟨w.heap.size, 1, none⟩ = false
  sz : w.heap.size < w'.heap.size
  be : Below w.heap.size w w'

theorem Held.new (w : World) : Held w (w.alloc (Obj.cells #[.int .i64 0, .int .i64 0] 26)) :=
  ⟨by simp [go_sem], by simp [go_sem], by simp [go_sem], by simp [go_sem], by simp, (Below.refl _ _).alloc (Nat.le_refl _) _⟩
theorem Held.below {w a b : World} (h : Held w a) (hb : Below a.heap.size a b) : Held w b :=
  ⟨kept_cell hb h.sz h.c0, kept_cell hb h.sz h.c1, (hb.frozen (p := ⟨w.heap.size, 0, none⟩) h.sz).trans h.f0, (hb.frozen (p := ⟨w.heap.size, 1, none⟩) h.sz).trans h.f1, Nat.lt_of_lt_of_le h.sz hb.size, h.be.trans (hb.mono (Nat.le_of_lt h.sz))⟩
theorem Held.alloc {w a : World} (h : Held w a) (o : Obj) : Held w (a.alloc o) := h.below ((Below.refl _ _).alloc (Nat.le_refl _) o)
theorem Held.grown {w a b : World} {t : Nat} (h : Held w a) (hb : a.grownBy b (some t)) (ht : w.heap.size < t) : Held w b := by
  have hk : b.heap[w.heap.size]? = a.heap[w.heap.size]? := hb.block _ h.sz (fun e => by injection e with e; omega)
  exact ⟨(World.cell?_of_block (a := ⟨w.heap.size, 0, none⟩) hk).trans h.c0, (World.cell?_of_block (a := ⟨w.heap.size, 1, none⟩) hk).trans h.c1, (World.frozen?_of_block (a := ⟨w.heap.size, 0, none⟩) hk).trans h.f0, (World.frozen?_of_block (a := ⟨w.heap.size, 1, none⟩) hk).trans h.f1, Nat.lt_of_lt_of_le h.sz hb.size, h.be.trans (below_of_grown hb _ (Nat.le_of_lt ht) (Nat.le_of_lt h.sz))⟩

theorem told_bool (t n c at_ : Nat) (A : Option Addr) (x s : Bool) (w : World) (h : Tape w t A n c at_ s) :
    Calls Tryd.prog 56 #[.pointer (some ⟨t, 0, none⟩), .bool x] w fun e w' => e = .returned (toldS (.bool false) (.bool x, at_, s) n) ∧ Below w.heap.size w w' := by
  cases s
  · exact told_bool_ok t n c at_ A x w h
  · exact told_bool_short t n c at_ A x w h

set_option maxHeartbeats 1000000 in
theorem flip_mid (p q : Int) (n c : Nat) (A : Option Addr) (f : Nat → Int) (w : World) (hn : n ≤ 2000) (hR : Row w A n f) (hok : ∀ j, j < n → OkBit (f j)) (hp : 0 < p) (hpq : p < q) (hq : q ≤ 1000000)
    (v s : Bool) (a : Nat) (hres : Hid (flipS f q n 0 p = (v, a, s))) (x1 : Bool) (x2 x3 x4 : Int) (hv : Hid (toldS (.bool false) (.bool v, a, s) n = .tuple #[.bool x1, .int .i64 x2, .agg #[.int .i64 x3, .int .i64 x4]])) :
    Calls Tryd.prog 10 #[.int .i64 p, .int .i64 q, .slice A n c] w fun e w' => e = .returned (.tuple #[.bool x1, .int .i64 x2, .agg #[.int .i64 x3, .int .i64 x4]]) ∧ Below w.heap.size w w' := by
  have HR := Lib.hid hR
  have HO := Lib.hid hok
  have z1 : (p == q) = false := by simp; omega
  have z2 : (p == 0) = false := by simp; omega
  clear hR hok
  go_enter Tryd.func10, Tryd.ntmps10
  go_wp2_with fail
  have H0 := Lib.hid (Held.new w)
  refine (check_ok n c A f _ hn (HR.out.below ((Below.refl _ _).alloc (Nat.le_refl _) _)) HO.out).mono ?_
  rintro e w1 ⟨rfl, hb1⟩
  have H1 := Lib.hid (H0.out.below hb1)
  have HR1 := Lib.hid ((HR.out.below ((Below.refl _ _).alloc (Nat.le_refl _) _)).below hb1)
  clear hb1 H0
  have hz : w.heap.size < w1.heap.size := H1.out.sz
  go_wp2_with fail
  have HT : Tape ((w1.alloc (Obj.cells #[Value.int IntKind.i64 0, Value.int IntKind.i64 0] 26)).alloc (Obj.cells #[Value.slice A n c, Value.int IntKind.i64 0, Value.bool false] 85)) (w1.heap.size + 1) A n c 0 false := Whole.new _ _ _ _ (by simp)
  have HR2 := Lib.hid ((HR1.out.below ((Below.refl _ _).alloc (Nat.le_refl _) (Obj.cells #[Value.int IntKind.i64 0, Value.int IntKind.i64 0] 26))).below ((Below.refl _ _).alloc (Nat.le_refl _) (Obj.cells #[Value.slice A n c, Value.int IntKind.i64 0, Value.bool false] 85)))
  have H2 := Lib.hid ((H1.out.alloc (Obj.cells #[Value.int IntKind.i64 0, Value.int IntKind.i64 0] 26)).alloc (Obj.cells #[Value.slice A n c, Value.int IntKind.i64 0, Value.bool false] 85))
  have hA : Apart A n (w1.heap.size + 1) := HR1.out.apart (by omega)
  refine (flip_any (w1.heap.size + 1) n c A f q (by omega) (by omega) (by omega) n 0 p _ (by omega) (by omega) (by omega) HT HR2.out hA _ hres).mono ?_
  rintro e w2 ⟨rfl, hTo⟩
  have H3 := Lib.hid (H2.out.grown hTo.2 (by omega))
  have HTo := Lib.hid hTo
  clear hTo HT hA H2 H1
  go_wp2_with fail
  refine (told_bool (w1.heap.size + 1) n c a A v s w2 HTo.out.1).mono ?_
  rw [hv.out]
  rintro e w3 ⟨rfl, hb3⟩
  have H4 := H3.out.below hb3
  have H5 := Lib.hid H4
  obtain ⟨c0, c1, f0, f1, sz, be⟩ := H4
  clear hb3 be H3
  go_wp2_with fail
  refine bodyPost_ret (v := .tuple #[.bool x1, .int .i64 x2, .agg #[.int .i64 x3, .int .i64 x4]]) (by simp [results, Tryd.results10, go_sem, c0, c1]) rfl ⟨rfl, (H5.out.be.setCell (Nat.le_refl _) _).setCell (Nat.le_refl _) _⟩

set_option maxHeartbeats 1000000 in
theorem flip_all (p q : Int) (n c : Nat) (A : Option Addr) (f : Nat → Int) (w : World) (hn : n ≤ 2000) (hR : Row w A n f) (hok : ∀ j, j < n → OkBit (f j)) (hpq : p = q) (hp : 1 ≤ p) (hq : q ≤ 1000000) :
    Calls Tryd.prog 10 #[.int .i64 p, .int .i64 q, .slice A n c] w fun e w' => e = .returned (.tuple #[.bool true, .int .i64 0, .agg #[.int .i64 0, .int .i64 0]]) ∧ Below w.heap.size w w' := by
  have HR := Lib.hid hR
  have HO := Lib.hid hok
  subst hpq
  have z1 : (p == p) = true := by simp
  clear hR hok
  go_enter Tryd.func10, Tryd.ntmps10
  go_wp2_with fail
  have H0 := Lib.hid (Held.new w)
  refine (check_ok n c A f _ hn (HR.out.below ((Below.refl _ _).alloc (Nat.le_refl _) _)) HO.out).mono ?_
  rintro e w1 ⟨rfl, hb1⟩
  have H1 := Lib.hid (H0.out.below hb1)
  clear hb1 H0
  have hz : w.heap.size < w1.heap.size := H1.out.sz
  go_wp2_with fail
  all_goals first | (exfalso; omega) | skip
  have HT : Tape ((w1.alloc (Obj.cells #[Value.int IntKind.i64 0, Value.int IntKind.i64 0] 26)).alloc (Obj.cells #[Value.slice A n c, Value.int IntKind.i64 0, Value.bool false] 85)) (w1.heap.size + 1) A n c 0 false := Whole.new _ _ _ _ (by simp)
  have H2 := Lib.hid ((H1.out.alloc (Obj.cells #[Value.int IntKind.i64 0, Value.int IntKind.i64 0] 26)).alloc (Obj.cells #[Value.slice A n c, Value.int IntKind.i64 0, Value.bool false] 85))
  refine (told_bool_ok (w1.heap.size + 1) n c 0 A true _ HT).mono ?_
  rintro e w3 ⟨rfl, hb3⟩
  have H4 := H2.out.below hb3
  have H5 := Lib.hid H4
  obtain ⟨c0, c1, f0, f1, sz, be⟩ := H4
  clear hb3 be HT H2 H1
  go_wp2_with fail
  exact bodyPost_ret (v := .tuple #[.bool true, .int .i64 0, .agg #[.int .i64 0, .int .i64 0]]) (by simp [results, Tryd.results10, go_sem, c0, c1]) rfl ⟨rfl, (H5.out.be.setCell (Nat.le_refl _) _).setCell (Nat.le_refl _) _⟩

set_option maxHeartbeats 1000000 in
theorem flip_none (p q : Int) (n c : Nat) (A : Option Addr) (f : Nat → Int) (w : World) (hn : n ≤ 2000) (hR : Row w A n f) (hok : ∀ j, j < n → OkBit (f j)) (hp : p = 0) (hq1 : 1 ≤ q) (hq : q ≤ 1000000) :
    Calls Tryd.prog 10 #[.int .i64 p, .int .i64 q, .slice A n c] w fun e w' => e = .returned (.tuple #[.bool false, .int .i64 0, .agg #[.int .i64 0, .int .i64 0]]) ∧ Below w.heap.size w w' := by
  have HR := Lib.hid hR
  have HO := Lib.hid hok
  subst hp
  have z1 : ((0 : Int) == q) = false := by simp; omega
  clear hR hok
  go_enter Tryd.func10, Tryd.ntmps10
  go_wp2_with fail
  have H0 := Lib.hid (Held.new w)
  refine (check_ok n c A f _ hn (HR.out.below ((Below.refl _ _).alloc (Nat.le_refl _) _)) HO.out).mono ?_
  rintro e w1 ⟨rfl, hb1⟩
  have H1 := Lib.hid (H0.out.below hb1)
  clear hb1 H0
  have hz : w.heap.size < w1.heap.size := H1.out.sz
  go_wp2_with fail
  all_goals first | (exfalso; omega) | skip
  have HT : Tape ((w1.alloc (Obj.cells #[Value.int IntKind.i64 0, Value.int IntKind.i64 0] 26)).alloc (Obj.cells #[Value.slice A n c, Value.int IntKind.i64 0, Value.bool false] 85)) (w1.heap.size + 1) A n c 0 false := Whole.new _ _ _ _ (by simp)
  have H2 := Lib.hid ((H1.out.alloc (Obj.cells #[Value.int IntKind.i64 0, Value.int IntKind.i64 0] 26)).alloc (Obj.cells #[Value.slice A n c, Value.int IntKind.i64 0, Value.bool false] 85))
  refine (told_bool_ok (w1.heap.size + 1) n c 0 A false _ HT).mono ?_
  rintro e w3 ⟨rfl, hb3⟩
  have H4 := H2.out.below hb3
  have H5 := Lib.hid H4
  obtain ⟨c0, c1, f0, f1, sz, be⟩ := H4
  clear hb3 be HT H2 H1
  go_wp2_with fail
  exact bodyPost_ret (v := .tuple #[.bool false, .int .i64 0, .agg #[.int .i64 0, .int .i64 0]]) (by simp [results, Tryd.results10, go_sem, c0, c1]) rfl ⟨rfl, (H5.out.be.setCell (Nat.le_refl _) _).setCell (Nat.le_refl _) _⟩

set_option maxHeartbeats 1000000 in
theorem flip_range (p q : Int) (n c : Nat) (A : Option Addr) (f : Nat → Int) (w : World) (hn : n ≤ 2000) (hR : Row w A n f) (hok : ∀ j, j < n → OkBit (f j)) (hbad : q < 1 ∨ 1000000 < q ∨ p < 0 ∨ q < p) :
    Calls Tryd.prog 10 #[.int .i64 p, .int .i64 q, .slice A n c] w fun e w' => e = .returned (.tuple #[.bool false, .int .i64 0, .agg #[.int .i64 3, .int .i64 n]]) ∧ Below w.heap.size w w' := by
  have HR := Lib.hid hR
  have HO := Lib.hid hok
  have HB := Lib.hid hbad
  clear hR hok hbad
  go_enter Tryd.func10, Tryd.ntmps10
  go_wp2_with fail
  have H0 := Lib.hid (Held.new w)
  refine (check_ok n c A f _ hn (HR.out.below ((Below.refl _ _).alloc (Nat.le_refl _) _)) HO.out).mono ?_
  rintro e w1 ⟨rfl, hb1⟩
  have H1 := Lib.hid (H0.out.below hb1)
  clear hb1 H0
  have hz : w.heap.size < w1.heap.size := H1.out.sz
  have H5 := Lib.hid H1.out
  obtain ⟨c0, c1, f0, f1, sz, be⟩ := H1.out
  clear be H1
  go_wp2_with fail
  all_goals first | (exfalso; have := HB.out; omega) | skip
  all_goals exact bodyPost_ret (v := .tuple #[.bool false, .int .i64 0, .agg #[.int .i64 3, .int .i64 n]]) (by simp [results, Tryd.results10, go_sem, c0, c1, hz]) rfl ⟨rfl, ((H5.out.be.setCell (Nat.le_refl _) _).setCell (Nat.le_refl _) _).alloc (by simp; omega) _⟩

/-- A refusal: of check's. -/
def Refuses (A : Option Addr) (n c : Nat) (code at_ : Int) (w : World) : Prop :=
  Calls Tryd.prog 55 #[.slice A n c] w fun e w' => e = .returned (.agg #[.int .i64 code, .int .i64 at_]) ∧ Below w.heap.size w w'

set_option maxHeartbeats 1000000 in
theorem flip_fault (p q code at_ : Int) (n c : Nat) (A : Option Addr) (w : World) (hC : Refuses A n c code at_ (w.alloc (Obj.cells #[.int .i64 0, .int .i64 0] 26))) (hcode : (code != 0) = true) :
    Calls Tryd.prog 10 #[.int .i64 p, .int .i64 q, .slice A n c] w fun e w' => e = .returned (.tuple #[.bool false, .int .i64 0, .agg #[.int .i64 code, .int .i64 at_]]) ∧ Below w.heap.size w w' := by
  have HC := Lib.hid hC
  clear hC
  go_enter Tryd.func10, Tryd.ntmps10
  go_wp2_with fail
  have H0 := Lib.hid (Held.new w)
  refine HC.out.mono ?_
  rintro e w1 ⟨rfl, hb1⟩
  have H1 := Lib.hid (H0.out.below hb1)
  clear hb1 H0
  have hz : w.heap.size < w1.heap.size := H1.out.sz
  have H5 := Lib.hid H1.out
  obtain ⟨c0, c1, f0, f1, sz, be⟩ := H1.out
  clear be H1
  go_wp2_with fail
  go_region
  go_wp2_with fail
  exact bodyPost_ret (v := .tuple #[.bool false, .int .i64 0, .agg #[.int .i64 code, .int .i64 at_]]) (by simp [results, Tryd.results10, go_sem, c0, c1, hz]) rfl ⟨rfl, (((H5.out.be.setCell (Nat.le_refl _) _).setCell (Nat.le_refl _) _).alloc (by simp; omega) _).drew⟩
end Go.Proofs.YtjjfkidddjcdcaaDoor
