/- Proved here: whole numbers in memory, told as Lean's integers; what is kept where one is put. Conditions: as each theorem says.
   Proved here: contracts of package enclosurebig's Set, Abs, Neg, Lsh, SetUint64 at this program. Conditions: as each theorem says. -/
import Derived.Test.YtjjfkidddjcdcaaDoorIntNew
import Derived.Test.YtjjfkidddjcdcaaDoorDivPow
import Derived.RegionTactic
import Derived.Deep.RegionWith
namespace Go.Proofs.YtjjfkidddjcdcaaDoor
open Go.ChangeShapes Go.WideShapes Go.ChangeAt Go.RowKit

/-- Every old cell but the two of the Int at (g, o) is as it was. -/
theorem Put.cell {w w' : World} {g o v : Nat} {neg : Bool} (h : Put w w' g o neg v) {b i : Nat} (hb : b < w.heap.size) (h0 : ¬ (b = g ∧ i = o)) (h1 : ¬ (b = g ∧ i = o + 1)) : w'.cell? ⟨b, i, none⟩ = w.cell? ⟨b, i, none⟩ := by
  by_cases e : b = g
  · subst e
    exact (h.rest i (fun q => h0 ⟨rfl, q⟩) (fun q => h1 ⟨rfl, q⟩)).1
  · exact World.cell?_of_block (a := ⟨b, i, none⟩) (h.grown.block b hb (fun q => e (by injection q)))
theorem Put.frozen {w w' : World} {g o v : Nat} {neg : Bool} (h : Put w w' g o neg v) {b i : Nat} (hb : b < w.heap.size) (h0 : ¬ (b = g ∧ i = o)) (h1 : ¬ (b = g ∧ i = o + 1)) : w'.frozen? ⟨b, i, none⟩ = w.frozen? ⟨b, i, none⟩ := by
  by_cases e : b = g
  · subst e
    exact (h.rest i (fun q => h0 ⟨rfl, q⟩) (fun q => h1 ⟨rfl, q⟩)).2
  · exact World.frozen?_of_block (a := ⟨b, i, none⟩) (h.grown.block b hb (fun q => e (by injection q)))

theorem IntAt.apart {w : World} {g o v g1 o1 v1 : Nat} {n n1 : Bool} (h : IntAt w g o n v) (h1 : IntAt w g1 o1 n1 v1) (hne : ¬ (g1 = g ∧ o1 = o)) :
    ¬ (g1 = g ∧ o1 = o + 1) ∧ ¬ (g1 = g ∧ o1 + 1 = o) := by
  obtain ⟨A, c, hs, _⟩ := h.num
  obtain ⟨A1, c1, hs1, _⟩ := h1.num
  refine ⟨fun ⟨e, e2⟩ => ?_, fun ⟨e, e2⟩ => ?_⟩
  · subst e; subst e2
    have := h1.sign
    rw [hs] at this; cases this
  · subst e; subst e2
    have := h.sign
    rw [hs1] at this; cases this

theorem Row32.put {w w' : World} {A : Option Addr} {n g o v v0 : Nat} {neg b0 : Bool} {f : Nat → Nat} (hr : Row32 w A n f) (hz : IntAt w g o b0 v0) (hP : Put w w' g o neg v) : Row32 w' A n f := fun hn => by
  obtain ⟨b, off, e, hlt, hc⟩ := hr hn
  refine ⟨b, off, e, Nat.lt_of_lt_of_le hlt hP.grown.size, fun j hj => ?_⟩
  have hj := hc j hj
  obtain ⟨A0, c0, hs, _⟩ := hz.num
  refine (hP.cell hlt (fun ⟨e1, e2⟩ => ?_) (fun ⟨e1, e2⟩ => ?_)).trans hj
  · subst e1; rw [e2, hz.sign] at hj; cases hj
  · subst e1; rw [e2, hs] at hj; cases hj

/-- Another Int is kept. -/
theorem IntAt.put {w w' : World} {g o v v0 g1 o1 v1 : Nat} {neg b0 n1 : Bool} (h1 : IntAt w g1 o1 n1 v1) (hz : IntAt w g o b0 v0) (hP : Put w w' g o neg v) (hne : ¬ (g1 = g ∧ o1 = o)) : IntAt w' g1 o1 n1 v1 := by
  obtain ⟨a1, a2⟩ := hz.apart h1 hne
  obtain ⟨A, c, hs, hr⟩ := h1.num
  exact ⟨Nat.lt_of_lt_of_le h1.lt hP.grown.size, (hP.cell h1.lt hne a1).trans h1.sign, ⟨A, c, (hP.cell h1.lt a2 (fun ⟨e1, e2⟩ => hne ⟨e1, by omega⟩)).trans hs, hr.put hz hP⟩,
    (hP.frozen h1.lt hne a1).trans h1.f0, (hP.frozen h1.lt a2 (fun ⟨e1, e2⟩ => hne ⟨e1, by omega⟩)).trans h1.f1⟩

theorem Put.below {w0 w w' : World} {B g o v : Nat} {neg : Bool} (hP : Put w w' g o neg v) (hb : Below B w0 w) (hg : B ≤ g) (hB : B ≤ w.heap.size) : Below B w0 w' := hb.trans (below_of_grown hP.grown B hg hB)

/-- The Int at (g, o) is z. -/
def At (w : World) (g o : Nat) (z : Int) : Prop := IntAt w g o (decide (z < 0)) z.natAbs
/-- z was put there. -/
def Puts (w w' : World) (g o : Nat) (z : Int) : Prop := Put w w' g o (decide (z < 0)) z.natAbs

theorem Puts.at_ {w w' : World} {g o : Nat} {z : Int} (h : Puts w w' g o z) : At w' g o z := Put.at_ h
theorem Puts.below {w0 w w' : World} {B g o : Nat} {z : Int} (hP : Puts w w' g o z) (hb : Below B w0 w) (hg : B ≤ g) (hB : B ≤ w.heap.size) : Below B w0 w' := Put.below hP hb hg hB
theorem At.below {w w' : World} {g o : Nat} {z : Int} (h : At w g o z) (hb : Below w.heap.size w w') : At w' g o z := IntAt.below h hb
theorem At.lt {w : World} {g o : Nat} {z : Int} (h : At w g o z) : g < w.heap.size := IntAt.lt h
theorem At.put {w w' : World} {g o g1 o1 : Nat} {z z0 z1 : Int} (h1 : At w g1 o1 z1) (hz : At w g o z0) (hP : Puts w w' g o z) (hne : ¬ (g1 = g ∧ o1 = o)) : At w' g1 o1 z1 := IntAt.put h1 hz hP hne
theorem At.zero (w : World) : At (w.alloc (Obj.cells #[.bool false, .slice none 0 0] 101)) w.heap.size 0 0 := IntAt.zero w
theorem neg_pos (z : Int) : (decide (z < 0) && decide (0 < z.natAbs)) = decide (z < 0) := by
  by_cases h : z < 0
  · rw [decide_eq_true h, decide_eq_true (by omega)]; rfl
  · rw [decide_eq_false h]; rfl

/-- give, told so. -/
theorem give_puts (w a : World) (g o c : Nat) (z0 z : Int) (neg : Bool) (A : Option Addr) (hz : At w g o z0) (hb : Below w.heap.size w a) (hR : Row32 a A (wc z.natAbs) (dig z.natAbs)) (hn : (neg && decide (0 < z.natAbs)) = decide (z < 0)) :
    Calls Tryd.prog 108 #[.pointer (some ⟨g, o, none⟩), .bool neg, .slice A (wc z.natAbs) c] a fun e w' => e = .returned (.pointer (some ⟨g, o, none⟩)) ∧ Puts w w' g o z := by
  refine (give_put w a g o z.natAbs z0.natAbs c _ neg A hz hb hR).mono ?_
  rintro e w' ⟨rfl, hP⟩
  rw [hn] at hP
  exact ⟨rfl, hP⟩

theorem setint_z (g o : Nat) (z0 x : Int) (w : World) (hz : At w g o z0) (hx : -9223372036854775808 ≤ x) (hx2 : x ≤ 9223372036854775807) :
    Calls Tryd.prog 89 #[.pointer (some ⟨g, o, none⟩), .int .i64 x] w fun e w' => e = .returned (.pointer (some ⟨g, o, none⟩)) ∧ Puts w w' g o x := by
  have h := setint_any g o _ _ x w hz hx hx2
  rw [neg_pos] at h
  exact h
theorem newint_z (x : Int) (w : World) (hx : -9223372036854775808 ≤ x) (hx2 : x ≤ 9223372036854775807) :
    Calls Tryd.prog 79 #[.int .i64 x] w fun e w' => Below w.heap.size w w' ∧ e = .returned (.pointer (some ⟨w.heap.size, 0, none⟩)) ∧ At w' w.heap.size 0 x := by
  have h := newint_any x w hx hx2
  rw [neg_pos] at h
  exact h
end Go.Proofs.YtjjfkidddjcdcaaDoor

namespace Go.Proofs.YtjjfkidddjcdcaaDoor
open Go.ChangeShapes Go.WideShapes Go.ChangeAt Go.RowKit

theorem below_drawn {w w1 : World} (hb : Below w.drew.heap.size w.drew w1) : Below w.heap.size w w1 := (Below.refl _ w).drew.trans hb

set_option maxHeartbeats 1000000 in
theorem set_z (g o gx ox : Nat) (z0 x : Int) (w : World) (hz : At w g o z0) (hx : At w gx ox x) (hs : wc x.natAbs ≤ 50000) :
    Calls Tryd.prog 123 #[.pointer (some ⟨g, o, none⟩), .pointer (some ⟨gx, ox, none⟩)] w fun e w' => e = .returned (.pointer (some ⟨g, o, none⟩)) ∧ Puts w w' g o x := by
  have HZ := Lib.hid hz
  have hlt := hx.lt
  obtain ⟨_, c0, ⟨A, c, c1, hR⟩, _, _⟩ := hx
  have HR := Lib.hid hR
  clear hz hR
  go_enter Tryd.func123, Tryd.ntmps123
  go_wp2_with fail
  go_region_with (first | (go_at_call 131; refine (twin_any A c x.natAbs _ (HR.out.below (Below.refl _ w).drew) (by omega)).mono ?_; rintro e w1 ⟨hb, _, rfl, A1, c1, rfl, hR1⟩; have q0 := hb.cell (p := ⟨gx, ox, none⟩) hlt) | (go_at_call 108; refine (give_puts w _ g o _ z0 x _ _ HZ.out (below_drawn hb) hR1 (neg_pos x)).mono ?_; rintro e w2 ⟨rfl, hP⟩))
  all_goals (go_wp2_with fail; go_ret; exact ⟨rfl, hP⟩)

theorem abs_z (g o gx ox : Nat) (z0 x : Int) (w : World) (hz : At w g o z0) (hx : At w gx ox x) (hs : wc x.natAbs ≤ 50000) :
    Calls Tryd.prog 114 #[.pointer (some ⟨g, o, none⟩), .pointer (some ⟨gx, ox, none⟩)] w fun e w' => e = .returned (.pointer (some ⟨g, o, none⟩)) ∧ Puts w w' g o (x.natAbs : Int) := by
  have HZ := Lib.hid hz
  have hlt := hx.lt
  obtain ⟨_, c0, ⟨A, c, c1, hR⟩, _, _⟩ := hx
  have HR := Lib.hid hR
  have hn : (false && decide (0 < (x.natAbs : Int).natAbs)) = decide ((x.natAbs : Int) < 0) := by simp
  have HN := Lib.hid hn
  clear hz hR hn
  go_enter Tryd.func114, Tryd.ntmps114
  go_wp2_with fail
  refine (twin_any A c x.natAbs _ HR.out (by omega)).mono ?_
  rintro e w1 ⟨hb, _, rfl, A1, c1, rfl, hR1⟩
  go_wp2_with fail
  refine (give_puts w w1 g o c1 z0 (x.natAbs : Int) false A1 HZ.out hb hR1 HN.out).mono ?_
  rintro e w2 ⟨rfl, hP⟩
  go_wp2_with fail
  go_ret
  exact ⟨rfl, hP⟩

theorem intneg_flip (x : Int) : ((!decide (x < 0)) && decide (0 < (-x).natAbs)) = decide (-x < 0) := by
  rcases Int.lt_trichotomy x 0 with h | h | h
  · rw [decide_eq_true h, decide_eq_false (show ¬ -x < 0 by omega)]; rfl
  · subst h; rfl
  · rw [decide_eq_false (show ¬ x < 0 by omega), decide_eq_true (show -x < 0 by omega), decide_eq_true (by omega)]; rfl

set_option maxHeartbeats 1000000 in
theorem neg_z (g o gx ox : Nat) (z0 x : Int) (w : World) (hz : At w g o z0) (hx : At w gx ox x) (hs : wc x.natAbs ≤ 50000) :
    Calls Tryd.prog 126 #[.pointer (some ⟨g, o, none⟩), .pointer (some ⟨gx, ox, none⟩)] w fun e w' => e = .returned (.pointer (some ⟨g, o, none⟩)) ∧ Puts w w' g o (-x) := by
  have HZ := Lib.hid hz
  have hlt := hx.lt
  obtain ⟨_, c0, ⟨A, c, c1, hR⟩, _, _⟩ := hx
  have HF := Lib.hid (intneg_flip x)
  have HE := Lib.hid (Int.natAbs_neg x)
  rw [← HE.out] at c1 hR hs
  have HR := Lib.hid hR
  clear hz hR
  obtain ⟨n, hn⟩ : ∃ n, decide (x < 0) = n := ⟨_, rfl⟩
  rw [hn] at c0 HF
  clear hn
  generalize -x = y at *
  go_enter Tryd.func126, Tryd.ntmps126
  go_wp2_with fail
  go_region_with (first | (go_at_call 131; refine (twin_any A c y.natAbs _ (HR.out.below (Below.refl _ w).drew) (by omega)).mono ?_; rintro e w1 ⟨hb, _, rfl, A1, c1, rfl, hR1⟩; have q0 := hb.cell (p := ⟨gx, ox, none⟩) hlt) | (go_at_call 108; refine (give_puts w _ g o _ z0 y _ _ HZ.out (below_drawn hb) hR1 HF.out).mono ?_; rintro e w2 ⟨rfl, hP⟩))
  all_goals (go_wp2_with fail; go_ret; exact ⟨rfl, hP⟩)

theorem shl_neg (x : Int) (n : Nat) : (decide (x < 0) && decide (0 < (x * 2 ^ n).natAbs)) = decide (x * 2 ^ n < 0) := by
  have hp : (0 : Int) < 2 ^ n := Int.pow_pos (by omega)
  rcases Int.lt_or_le x 0 with h | h
  · have h1 : x * 2 ^ n < 0 := Int.mul_neg_of_neg_of_pos h hp
    rw [decide_eq_true h, decide_eq_true h1, decide_eq_true (by omega)]; rfl
  · have h1 : 0 ≤ x * 2 ^ n := Int.mul_nonneg h (by omega)
    rw [decide_eq_false (show ¬ x < 0 by omega), decide_eq_false (show ¬ x * 2 ^ n < 0 by omega)]; rfl
theorem shl_abs (x : Int) (n : Nat) : (x * 2 ^ n).natAbs = x.natAbs * 2 ^ n := by
  rw [Int.natAbs_mul, Int.natAbs_pow]; rfl

set_option maxHeartbeats 1000000 in
theorem lsh_z (g o gx ox n : Nat) (z0 x : Int) (w : World) (hz : At w g o z0) (hx : At w gx ox x) (hs : wc x.natAbs ≤ 50000) (hn : n ≤ 1000000) :
    Calls Tryd.prog 78 #[.pointer (some ⟨g, o, none⟩), .pointer (some ⟨gx, ox, none⟩), .int .u64 n] w fun e w' => e = .returned (.pointer (some ⟨g, o, none⟩)) ∧ Puts w w' g o (x * 2 ^ n) := by
  have HZ := Lib.hid hz
  have hlt := hx.lt
  obtain ⟨_, c0, ⟨A, c, c1, hR⟩, _, _⟩ := hx
  have HF := Lib.hid (shl_neg x n)
  have HC := Lib.hid (fun w' hb => left_any A c x.natAbs n w' (hR.below hb) (by omega) hn)
  rw [← shl_abs] at HC
  clear hz hR
  obtain ⟨b, hb⟩ : ∃ b, decide (x < 0) = b := ⟨_, rfl⟩
  rw [hb] at c0 HF
  clear hb
  generalize x * 2 ^ n = y at *
  go_enter Tryd.func78, Tryd.ntmps78
  go_wp2_with fail
  go_region_with (first | (go_at_call 110; refine (HC.out _ (Below.refl _ w).drew).mono ?_; rintro e w1 ⟨hb, _, rfl, A1, c1, rfl, hR1⟩; have q0 := hb.cell (p := ⟨gx, ox, none⟩) hlt) | (go_at_call 108; refine (give_puts w _ g o _ z0 y _ _ HZ.out (below_drawn hb) hR1 HF.out).mono ?_; rintro e w2 ⟨rfl, hP⟩))
  all_goals (go_wp2_with fail; go_ret; exact ⟨rfl, hP⟩)

theorem setuint_z (g o x : Nat) (z0 : Int) (w : World) (hz : At w g o z0) (hx : x < 18446744073709551616) :
    Calls Tryd.prog 81 #[.pointer (some ⟨g, o, none⟩), .int .u64 x] w fun e w' => e = .returned (.pointer (some ⟨g, o, none⟩)) ∧ Puts w w' g o (x : Int) := by
  have HZ := Lib.hid hz
  have hn : (false && decide (0 < (x : Int).natAbs)) = decide ((x : Int) < 0) := by simp
  have HN := Lib.hid hn
  clear hz hn
  go_enter Tryd.func81, Tryd.ntmps81
  go_wp2_with fail
  refine (words_any x w hx).mono ?_
  rintro e w1 ⟨hb, _, rfl, A1, c1, rfl, hR1⟩
  go_wp2_with fail
  refine (give_puts w w1 g o c1 z0 (x : Int) false A1 HZ.out hb hR1 HN.out).mono ?_
  rintro e w2 ⟨rfl, hP⟩
  go_wp2_with fail
  go_ret
  exact ⟨rfl, hP⟩
end Go.Proofs.YtjjfkidddjcdcaaDoor
