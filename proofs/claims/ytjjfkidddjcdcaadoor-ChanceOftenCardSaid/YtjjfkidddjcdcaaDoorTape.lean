/- Proved here: contracts of package chance's tape at this program: the next bit, flips, picks. Conditions: as each theorem says. -/
import Derived.Test.YtjjfkidddjcdcaaDoorMem
import Derived.Test.YtjjfkidddjcdcaaDoorLaid
import Derived.RegionTactic
import Derived.ChangeAlike
import Derived.Deep.LoopGhost
namespace Go.Proofs.YtjjfkidddjcdcaaDoor
open Go.ChangeShapes Go.WideShapes Go.ChangeAt Go.RowKit

/-- The tape in block t: its bits, its place, whether it fell short. -/
def Tape (w : World) (t : Nat) (A : Option Addr) (n c at_ : Nat) (short : Bool) : Prop := Whole w t 85 #[.slice A n c, .int .i64 at_, .bool short]

/-- .. and nothing else that was there has turned. -/
def To (w w' : World) (t : Nat) (A : Option Addr) (n c at_ : Nat) (short : Bool) : Prop := Tape w' t A n c at_ short ∧ w.grownBy w' (some t)

theorem To.drewN {w w' : World} {t : Nat} {A : Option Addr} {n c at_ : Nat} {short : Bool} (h : To w w' t A n c at_ short) (k : Nat) : To w (w'.drewN k) t A n c at_ short := ⟨h.1.drewN k, grown_drewN h.2 k⟩
theorem To.refl {w : World} {t : Nat} {A : Option Addr} {n c at_ : Nat} {short : Bool} (h : Tape w t A n c at_ short) : To w w t A n c at_ short := ⟨h, grown_refl _ _⟩
theorem To.trans {a b w : World} {t : Nat} {A : Option Addr} {n c at_ at2 : Nat} {short sh2 : Bool} (h : To a b t A n c at_ short) (k : To b w t A n c at2 sh2) : To a w t A n c at2 sh2 := ⟨k.1, grown_trans h.2 k.2⟩
theorem To.setAt {w w' : World} {t : Nat} {A : Option Addr} {n c at_ : Nat} {short : Bool} (h : To w w' t A n c at_ short) (x : Int) (k : Nat) (hx : x = k) : To w (w'.setCell ⟨t, 1, none⟩ (.int .i64 x)) t A n c k short := by
  subst hx
  exact ⟨h.1.set 1 _, grown_set h.2 1 _⟩
theorem To.setShort {w w' : World} {t : Nat} {A : Option Addr} {n c at_ : Nat} {short : Bool} (h : To w w' t A n c at_ short) (s : Bool) : To w (w'.setCell ⟨t, 2, none⟩ (.bool s)) t A n c at_ s :=
  ⟨h.1.set 2 _, grown_set h.2 2 _⟩

theorem next_end (t n c at_ : Nat) (A : Option Addr) (short : Bool) (w : World) (h : Tape w t A n c at_ short) (hle : n ≤ at_) :
    Calls Tryd.prog 94 #[.pointer (some ⟨t, 0, none⟩)] w fun e w' => e = .returned (.int .i64 0) ∧ To w w' t A n c at_ true := by
  have h0 : w.cell? ⟨t, 0, none⟩ = some (.slice A n c) := h.cell 0
  have h1 : w.cell? ⟨t, 1, none⟩ = some (.int .i64 at_) := h.cell 1
  have h2 : w.cell? ⟨t, 2, none⟩ = some (.bool short) := h.cell 2
  have f2 := h.frozen 2
  have hd : decide (n ≤ at_) = true := by simpa using hle
  have H := Lib.hid h
  clear h
  go_enter Tryd.func94, Tryd.ntmps94
  go_wp2_with fail
  go_quiet (fail)
  go_wp2_with fail
  go_ret
  exact ⟨rfl, ((To.refl H.out).drewN _).setShort true⟩

theorem next_bit (t n c at_ : Nat) (A : Option Addr) (f : Nat → Int) (w : World) (h : Tape w t A n c at_ false) (hR : Row w A n f) (hA : Apart A n t) (hlt : at_ < n) (hn : n ≤ 1000000) :
    Calls Tryd.prog 94 #[.pointer (some ⟨t, 0, none⟩)] w fun e w' => e = .returned (.int .i64 (f at_)) ∧ To w w' t A n c (at_ + 1) false := by
  obtain ⟨b, off, rfl, hb, hc⟩ := hR (by omega)
  have hbt : b ≠ t := hA (by omega) _ rfl
  have hx := hc at_ hlt
  have h0 : w.cell? ⟨t, 0, none⟩ = some (.slice (some ⟨b, off, none⟩) n c) := h.cell 0
  have h1 : w.cell? ⟨t, 1, none⟩ = some (.int .i64 at_) := h.cell 1
  have f1 := h.frozen 1
  have hd : decide (n ≤ at_) = false := by simpa using hlt
  have H := Lib.hid h
  clear h hc hR hA
  generalize f at_ = x at *
  go_enter Tryd.func94, Tryd.ntmps94
  go_wp2_with fail
  go_quiet (fail)
  go_wp2_with fail
  go_quiet (fail)
  go_wp2_with fail
  go_ret
  exact ⟨rfl, (((To.refl H.out).drewN _).setAt _ _ (by omega)).drewN _⟩

/-- How a flip goes on bits: from place 'a' on, 'k' bits are left: what it says, where it stops, whether it fell short. -/
def flipS (f : Nat → Int) (q : Int) : Nat → Nat → Int → Bool × Nat × Bool
  | 0, a, p => (decide (q ≤ 2 * p), a, true)
  | k + 1, a, p =>
    if q ≤ 2 * p then
      if f a = 1 then (if 2 * p - q = 0 then (false, a + 1, false) else flipS f q k (a + 1) (2 * p - q)) else (decide (f a < 1), a + 1, false)
    else
      if f a = 0 then (if 2 * p = 0 then (false, a + 1, false) else flipS f q k (a + 1) (2 * p)) else (decide (f a < 0), a + 1, false)

def FlipRel (f : Nat → Int) (q : Int) (res : Bool × Nat × Bool) (w : World) (t : Nat) (A : Option Addr) (n c gk : Nat) (v1 : Value) (wr : World) : Prop :=
  (∃ (k a : Nat) (p : Int), gk = k + 1 ∧ a + k = n ∧ 0 ≤ p ∧ p ≤ q ∧ v1 = .int .i64 p ∧ flipS f q k a p = res ∧ To w wr t A n c a false) ∨
  (gk = 0 ∧ (∃ p : Int, v1 = .int .i64 p) ∧ res = (false, n, true) ∧ To w wr t A n c n true)

theorem ret_bool {a b : Bool} (h : a = b) : Ending.returned (.bool a) = .returned (.bool b) := by rw [h]

set_option maxHeartbeats 1000000 in
theorem flip_any (t n c : Nat) (A : Option Addr) (f : Nat → Int) (q : Int) (hn : n ≤ 1000000) (hq : 1 ≤ q) (hq2 : q ≤ 10000000)
    (k a : Nat) (p : Int) (w : World) (hk : a + k = n) (hp : 0 ≤ p) (hpq : p ≤ q) (hT : Tape w t A n c a false) (hR : Row w A n f) (hA : Apart A n t) (res : Bool × Nat × Bool) (hres : Hid (flipS f q k a p = res)) :
    Calls Tryd.prog 57 #[.pointer (some ⟨t, 0, none⟩), .int .i64 p, .int .i64 q] w fun e w' => e = .returned (.bool res.1) ∧ To w w' t A n c res.2.1 res.2.2 := by
  have HS : FlipRel f q res w t A n c (k + 1) (.int .i64 p) w := .inl ⟨k, a, p, rfl, hk, hp, hpq, rfl, hres.out, To.refl hT⟩
  have HR := Lib.hid hR
  have HA := Lib.hid hA
  clear hT hR hA hres hp hpq hk
  have HS' := Lib.hid HS
  clear HS
  go_enter Tryd.func57, Tryd.ntmps57
  go_wp2_with fail
  go_loopg [1, 7, 8] (k + 1) (fun gk v1 v7 v8 wr => FlipRel f q res w t A n c gk v1 wr)
  case atStart => exact HS'.out
  case round =>
    clear HS'
    rcases hrel with ⟨k', a', p', rfl, hk, hp, hpq, rfl, hres, hTo⟩ | ⟨rfl, ⟨p', rfl⟩, hres, hTo⟩
    · have h2 : wr.cell? ⟨t, 2, none⟩ = some (.bool false) := hTo.1.cell 2
      have HTo := Lib.hid hTo
      clear hTo
      rcases k' with _ | k'
      · -- no bit is left
        have C := Lib.hid (next_end t n c a' A false wr HTo.out.1 (by omega))
        by_cases hd : q ≤ 2 * p'
        · have hres' : res = (true, a', true) := by rw [← hres]; unfold flipS; rw [decide_eq_true hd]
          subst hres'
          clear hres
          go_wp2_with (go_at_call 94; refine C.out.mono ?_; rintro e w2 ⟨rfl, hT2⟩)
          go_ret
          exact ⟨rfl, HTo.out.trans hT2⟩
        · have hres' : res = (false, a', true) := by rw [← hres]; unfold flipS; rw [decide_eq_false hd]
          subst hres'
          clear hres
          by_cases h0 : p' = 0
          · subst h0
            go_wp2_with (go_at_call 94; refine C.out.mono ?_; rintro e w2 ⟨rfl, hT2⟩)
            go_ret
            exact ⟨rfl, HTo.out.trans hT2⟩
          · have z : (2 * p' == 0) = false := by simp; omega
            have z' : (p' * 2 == 0) = false := by simp; omega
            go_wp2_with (go_at_call 94; refine C.out.mono ?_; rintro e w2 ⟨rfl, hT2⟩)
            go_roundg 0
            case measure => omega
            case rel => exact .inr ⟨rfl, ⟨_, rfl⟩, by rw [show a' = n by omega], by have := HTo.out.trans hT2; rwa [show a' = n by omega] at this⟩
      · have C := Lib.hid (next_bit t n c a' A f wr HTo.out.1 (HR.out.grown HTo.out.2 HA.out) HA.out (by omega) hn)
        unfold flipS at hres
        generalize hx : f a' = x at *
        clear hx
        by_cases hd : q ≤ 2 * p'
        · rw [if_pos hd] at hres
          by_cases h1 : x = 1
          · rw [if_pos h1] at hres
            by_cases h3 : 2 * p' - q = 0
            · rw [if_pos h3] at hres
              subst hres h1
              have z : (2 * p' - q == 0) = true := by simp; omega
              have z' : (p' * 2 - q == 0) = true := by simp; omega
              clear h3
              go_wp2_with (go_at_call 94; refine C.out.mono ?_; rintro e w2 ⟨rfl, hT2⟩)
              go_ret
              exact ⟨rfl, HTo.out.trans hT2⟩
            · rw [if_neg h3] at hres
              subst h1
              have z : (2 * p' - q == 0) = false := by simp; omega
              have z' : (p' * 2 - q == 0) = false := by simp; omega
              have HRES := Lib.hid hres
              clear hres
              go_wp2_with (go_at_call 94; refine C.out.mono ?_; rintro e w2 ⟨rfl, hT2⟩)
              go_roundg (k' + 1)
              case measure => omega
              case rel => exact .inl ⟨k', a' + 1, 2 * p' - q, rfl, by omega, by omega, by omega, by rw [Int.mul_comm 2 p'], HRES.out, HTo.out.trans hT2⟩
          · rw [if_neg h1] at hres
            subst hres
            have z : (x != 1) = true := by simp; omega
            have zz : (x == 1) = false := by simp; omega
            go_wp2_with (go_at_call 94; refine C.out.mono ?_; rintro e w2 ⟨rfl, hT2⟩)
            go_ret
            exact ⟨rfl, HTo.out.trans hT2⟩
        · rw [if_neg hd] at hres
          by_cases h1 : x = 0
          · rw [if_pos h1] at hres
            by_cases h3 : 2 * p' = 0
            · rw [if_pos h3] at hres
              obtain rfl : p' = 0 := by omega
              subst hres h1
              clear h3
              go_wp2_with (go_at_call 94; refine C.out.mono ?_; rintro e w2 ⟨rfl, hT2⟩)
              go_ret
              exact ⟨rfl, HTo.out.trans hT2⟩
            · rw [if_neg h3] at hres
              subst h1
              have z : (2 * p' == 0) = false := by simp; omega
              have z' : (p' * 2 == 0) = false := by simp; omega
              have HRES := Lib.hid hres
              clear hres
              go_wp2_with (go_at_call 94; refine C.out.mono ?_; rintro e w2 ⟨rfl, hT2⟩)
              go_roundg (k' + 1)
              case measure => omega
              case rel => exact .inl ⟨k', a' + 1, 2 * p', rfl, by omega, by omega, by omega, by rw [Int.mul_comm 2 p'], HRES.out, HTo.out.trans hT2⟩
          · rw [if_neg h1] at hres
            subst hres
            have z : (x != 0) = true := by simp; omega
            have zz : (x == 0) = false := by simp; omega
            go_wp2_with (go_at_call 94; refine C.out.mono ?_; rintro e w2 ⟨rfl, hT2⟩)
            go_ret
            exact ⟨rfl, HTo.out.trans hT2⟩
    · have h2 : wr.cell? ⟨t, 2, none⟩ = some (.bool true) := hTo.1.cell 2
      have HTo := Lib.hid hTo
      subst hres
      clear hTo
      go_wp2_with fail
      go_ret
      exact ⟨rfl, HTo.out⟩
end Go.Proofs.YtjjfkidddjcdcaaDoor
