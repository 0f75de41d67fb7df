/- Proved here: contracts of package enclosurebig's den, SetFrac, SetInt, SetInt64 at this program. Conditions: as each theorem says. -/
import Derived.Test.YtjjfkidddjcdcaaDoorRatNorm
namespace Go.Proofs.YtjjfkidddjcdcaaDoor
open Go.ChangeShapes Go.WideShapes Go.ChangeAt Go.RowKit

theorem den_z (g k : Nat) (a : Int) (w : World) (h : RatAt w g a k) :
    Calls Tryd.prog 103 #[.pointer (some ⟨g, 0, none⟩)] w fun e w' => w' = w ∧ e = .returned (.pointer (some ⟨g, 2, none⟩)) := by
  obtain ⟨_, h2⟩ := h
  obtain ⟨_, d0, ⟨A2, c2, d1, hR2⟩, _, _⟩ := at_two.1 h2
  have d1' : w.cell? ⟨g, 3, none⟩ = some (.slice A2 (wc (2 ^ k)) c2) := d1
  rw [wc_pow] at d1'
  clear h2 hR2 d1
  generalize k / 32 = q at *
  have hz : ((q : Int) + 1 == 0) = false := by simp; omega
  go_enter Tryd.func103, Tryd.ntmps103
  go_wp2_with fail
  go_ret
  exact ⟨rfl, rfl⟩

/-- An Int is put whole. -/
theorem Put.whole {w : World} {g o v u c : Nat} {s b : Bool} {A : Option Addr} (h : IntAt w g o b v) (hR : Row32 w A (wc u) (dig u)) : Put w ((w.setCell ⟨g, o, none⟩ (.bool s)).setCell ⟨g, o + 1, none⟩ (.slice A (wc u) c)) g o s u := by
  obtain ⟨A0, c0, hs, _⟩ := h.num
  have hne2 : (⟨g, o + 1, none⟩ : Addr) ≠ ⟨g, o, none⟩ := by intro e; injection e with _ e _; omega
  have hne : (⟨g, o, none⟩ : Addr) ≠ ⟨g, o + 1, none⟩ := fun e => hne2 e.symm
  have k1 : (w.setCell ⟨g, o, none⟩ (.bool s)).cell? ⟨g, o + 1, none⟩ = some (.slice A0 (wc v) c0) := by rw [World.cell?_setCell_other _ _ _ _ hne]; exact hs
  refine ⟨⟨by simpa [World.setCell] using h.lt, ?_, ⟨A, c, World.cell?_setCell_same _ _ _ k1, (hR.set _ _ (fun x e => ?_)).set _ _ (fun x e => ?_)⟩, by simpa using h.f0, by simpa using h.f1⟩, grown_set (grown_set (grown_refl _ _) _ _) _ _, fun i h1 h2 => ⟨?_, by simp⟩⟩
  · rw [World.cell?_setCell_other _ _ _ _ hne2]; exact World.cell?_setCell_same _ _ _ h.sign
  · rw [h.sign] at e; cases e
  · rw [k1] at e; cases e
  · rw [World.cell?_setCell_other _ _ _ _ (by intro e; injection e with _ e _; exact h2 e.symm), World.cell?_setCell_other _ _ _ _ (by intro e; injection e with _ e _; exact h1 e.symm)]

/-- A new Int is laid, then something is put there. -/
theorem new_put {w w' : World} {z : Int} (hP : Puts (w.alloc (Obj.cells #[.bool false, .slice none 0 0] 101)) w' w.heap.size 0 z) : Below w.heap.size w w' ∧ At w' w.heap.size 0 z :=
  ⟨hP.below ((Below.refl _ _).alloc (Nat.le_refl _) _) (Nat.le_refl _) (by simp), hP.at_⟩
theorem below_new (w : World) (o : Obj) : Below w.heap.size w (w.alloc o) := (Below.refl _ _).alloc (Nat.le_refl _) _
theorem set_new (gx ox : Nat) (x : Int) (w : World) (hx : At w gx ox x) (hs : wc x.natAbs ≤ 50000) :
    Calls Tryd.prog 123 #[.pointer (some ⟨w.heap.size, 0, none⟩), .pointer (some ⟨gx, ox, none⟩)] (w.alloc (Obj.cells #[.bool false, .slice none 0 0] 101)) fun e w' => e = .returned (.pointer (some ⟨w.heap.size, 0, none⟩)) ∧ Below w.heap.size w w' ∧ At w' w.heap.size 0 x := by
  refine (set_z w.heap.size 0 gx ox 0 x _ (At.zero w) (hx.below (below_new w _)) hs).mono ?_
  rintro e w' ⟨rfl, hP⟩
  exact ⟨rfl, new_put hP⟩

set_option maxRecDepth 100000 in
set_option maxHeartbeats 1000000 in
theorem setfrac_z (g ga oa gb ob k : Nat) (z1 z2 a : Int) (w : World) (hz1 : At w g 0 z1) (hz2 : At w g 2 z2) (ha : At w ga oa a) (hb : At w gb ob ((2 ^ k : Nat) : Int)) (hs : wc a.natAbs ≤ 50000) (hk : k ≤ 600000) :
    Calls Tryd.prog 101 #[.pointer (some ⟨g, 0, none⟩), .pointer (some ⟨ga, oa, none⟩), .pointer (some ⟨gb, ob, none⟩)] w fun e w' => e = .returned (.pointer (some ⟨g, 0, none⟩)) ∧ RatPut w w' g a k := by
  have HA := Lib.hid ha
  have HB := Lib.hid hb
  have HZ1 := Lib.hid hz1
  have HZ2 := Lib.hid hz2
  obtain ⟨_, d0, ⟨A2, c2, d1, hR2⟩, _, _⟩ := at_two.1 hb
  rw [wc_pow] at d1
  have hq : k / 32 ≤ 18750 := by omega
  clear ha hb hz1 hz2 hR2
  obtain ⟨q, hqe⟩ : ∃ q, k / 32 = q := ⟨_, rfl⟩
  rw [hqe] at d1 hq
  have hz : ((q : Int) + 1 == 0) = false := by simp; omega
  clear hqe
  have hlg := HZ1.out.lt
  go_enter Tryd.func101, Tryd.ntmps101
  go_wp2_with fail
  refine (set_new ga oa a w HA.out hs).mono ?_
  rintro e w2 ⟨rfl, hb2, hP⟩
  generalize hgp : w.heap.size = gp at *
  go_wp2_with fail
  refine (set_new gb ob ((2 ^ k : Nat) : Int) w2 (HB.out.below (by rw [hgp]; exact hb2)) (by rw [show ((2 ^ k : Nat) : Int).natAbs = 2 ^ k from rfl, wc_pow]; omega)).mono ?_
  rintro e w4 ⟨rfl, hb4, hQ⟩
  have hP4 := hP.below hb4
  have hsz : gp ≤ w2.heap.size := by rw [← hgp]; exact hb2.size
  have hb04 : Below w.heap.size w w4 := by rw [hgp]; exact hb2.trans (hb4.mono hsz)
  clear hb2 hb4 hP
  generalize w2.heap.size = gq at *
  have n1 : ¬ g = gq := by omega
  have n2 : ¬ gq = g := by omega
  have n3 : ¬ g = gp := by omega
  have n4 : ¬ gp = g := by omega
  obtain ⟨_, p0, ⟨A4, c4, p1, hRp⟩, _, _⟩ := hP4
  obtain ⟨_, p2, ⟨A5, c5, p3, hRq⟩, _, _⟩ := at_two.1 hQ
  have Z1 := HZ1.out.below hb04
  have Z2 := HZ2.out.below hb04
  have HZ3 := Lib.hid Z1
  have HZ4 := Lib.hid Z2
  obtain ⟨_, s0, ⟨A6, c6, s1, _⟩, f0, f1⟩ := Z1
  obtain ⟨_, s2, ⟨A7, c7, s3, _⟩, f2, f3⟩ := Z2
  go_wp2_with fail
  have hW1 : Put w4 ((w4.setCell ⟨g, 0, none⟩ (.bool (decide (a < 0)))).setCell ⟨g, 1, none⟩ (.slice A4 (wc a.natAbs) c4)) g 0 (decide (a < 0)) a.natAbs := Put.whole HZ3.out hRp
  have Z5 : At _ g 2 z2 := IntAt.put HZ4.out HZ3.out hW1 (by omega)
  have hRq2 := Row32.put hRq HZ3.out hW1
  clear p0 p1 p2 p3 s0 s1 s2 s3 f0 f1 f2 f3 hRp hRq
  generalize (w4.setCell ⟨g, 0, none⟩ (.bool (decide (a < 0)))).setCell ⟨g, 1, none⟩ (.slice A4 (wc a.natAbs) c4) = w5 at *
  have hW2 : Put w5 ((w5.setCell ⟨g, 2, none⟩ (.bool false)).setCell ⟨g, 3, none⟩ (.slice A5 (wc (2 ^ k)) c5)) g 2 false (2 ^ k) := Put.whole Z5 hRq2
  have hRat : RatAt _ g a k := ⟨IntAt.put hW1.at_ Z5 hW2 (by omega), at_two.2 hW2.at_⟩
  have hgr : w.grownBy _ (some g) := grown_trans (grown_trans (grown_below (grown_refl w (some g)) hb04) hW1.grown) hW2.grown
  clear hW2 hW1 hRq2 Z5 HZ3 HZ4
  generalize (w5.setCell ⟨g, 2, none⟩ (.bool false)).setCell ⟨g, 3, none⟩ (.slice A5 (wc (2 ^ k)) c5) = w6 at *
  refine (norm_z g k a w6 hRat hk hs).mono ?_
  rintro e w7 ⟨rfl, hg7, hN⟩
  go_wp2_with fail
  go_ret
  exact ⟨rfl, grown_trans hgr hg7, hN⟩
end Go.Proofs.YtjjfkidddjcdcaaDoor
