/- Proved here: contracts of package enclosurebig's Mul, Add, QuoRem at this program. Conditions: as each theorem says. -/
import Derived.Test.YtjjfkidddjcdcaaDoorIntGet
namespace Go.Proofs.YtjjfkidddjcdcaaDoor
open Go.ChangeShapes Go.WideShapes Go.ChangeAt Go.RowKit

theorem mul_flip (x y : Int) : ((decide (x < 0) != decide (y < 0)) && decide (0 < (x * y).natAbs)) = decide (x * y < 0) := by
  rcases Int.lt_trichotomy x 0 with h | h | h
  · rcases Int.lt_trichotomy y 0 with k | k | k
    · have := Int.mul_pos_of_neg_of_neg h k
      rw [decide_eq_true h, decide_eq_true k, decide_eq_false (show ¬ x * y < 0 by omega)]; rfl
    · subst k; simp
    · have := Int.mul_neg_of_neg_of_pos h k
      rw [decide_eq_true h, decide_eq_false (show ¬ y < 0 by omega), decide_eq_true (show x * y < 0 by omega), decide_eq_true (show 0 < (x * y).natAbs by omega)]; rfl
  · subst h; simp
  · rcases Int.lt_trichotomy y 0 with k | k | k
    · have := Int.mul_neg_of_pos_of_neg h k
      rw [decide_eq_true k, decide_eq_false (show ¬ x < 0 by omega), decide_eq_true (show x * y < 0 by omega), decide_eq_true (show 0 < (x * y).natAbs by omega)]; rfl
    · subst k; simp
    · have := Int.mul_pos h k
      rw [decide_eq_false (show ¬ x < 0 by omega), decide_eq_false (show ¬ y < 0 by omega), decide_eq_false (show ¬ x * y < 0 by omega)]; rfl

set_option maxHeartbeats 1000000 in
theorem mul_z (g o gx ox gy oy : Nat) (z0 x y : Int) (w : World) (hz : At w g o z0) (hx : At w gx ox x) (hy : At w gy oy y) (hax : ¬ (gx = g ∧ ox = o)) (hay : ¬ (gy = g ∧ oy = o)) (hs : wc x.natAbs ≤ 50000) (hs2 : wc y.natAbs ≤ 50000) :
    Calls Tryd.prog 102 #[.pointer (some ⟨g, o, none⟩), .pointer (some ⟨gx, ox, none⟩), .pointer (some ⟨gy, oy, none⟩)] w fun e w' => e = .returned (.pointer (some ⟨g, o, none⟩)) ∧ Puts w w' g o (x * y) := by
  have HZ := Lib.hid hz
  have hlt := hx.lt
  have hlt2 := hy.lt
  obtain ⟨a1, a2⟩ := IntAt.apart hz hx hax
  obtain ⟨b1, b2⟩ := IntAt.apart hz hy hay
  obtain ⟨_, c0, ⟨A, c, c1, hR⟩, _, _⟩ := hx
  obtain ⟨_, d0, ⟨A2, c2, d1, hR2⟩, _, _⟩ := hy
  have HF := Lib.hid (mul_flip x y)
  have HC := Lib.hid (fun w' hb => mul_any A A2 c c2 x.natAbs y.natAbs w' (hR.below hb) (hR2.below hb) (by omega) (by omega))
  rw [← Int.natAbs_mul] at HC
  clear hz hR hR2
  obtain ⟨n1, hn1⟩ : ∃ n, decide (x < 0) = n := ⟨_, rfl⟩
  obtain ⟨n2, hn2⟩ : ∃ n, decide (y < 0) = n := ⟨_, rfl⟩
  rw [hn1] at c0 HF
  rw [hn2] at d0 HF
  clear hn1 hn2
  generalize x * y = p at *
  generalize wc x.natAbs = m at *
  generalize wc y.natAbs = n at *
  have KP : Hid (∀ w2, Puts w w2 g o p → (w2.cell? ⟨gx, ox, none⟩ = some (.bool n1) ∧ w2.cell? ⟨gx, ox + 1, none⟩ = some (.slice A m c)) ∧ w2.cell? ⟨gy, oy, none⟩ = some (.bool n2) ∧ w2.cell? ⟨gy, oy + 1, none⟩ = some (.slice A2 n c2)) := fun w2 hP =>
    ⟨⟨(Put.cell hP hlt hax a1).trans c0, (Put.cell hP hlt a2 (fun ⟨e1, e2⟩ => hax ⟨e1, by omega⟩)).trans c1⟩, (Put.cell hP hlt2 hay b1).trans d0, (Put.cell hP hlt2 b2 (fun ⟨e1, e2⟩ => hay ⟨e1, by omega⟩)).trans d1⟩
  have KB : Hid (∀ w2, Below w.heap.size w w2 → (w2.cell? ⟨gx, ox, none⟩ = some (.bool n1) ∧ w2.cell? ⟨gx, ox + 1, none⟩ = some (.slice A m c)) ∧ w2.cell? ⟨gy, oy, none⟩ = some (.bool n2) ∧ w2.cell? ⟨gy, oy + 1, none⟩ = some (.slice A2 n c2)) := fun w2 hb =>
    ⟨⟨(hb.cell (p := ⟨gx, ox, none⟩) hlt).trans c0, (hb.cell (p := ⟨gx, ox + 1, none⟩) hlt).trans c1⟩, (hb.cell (p := ⟨gy, oy, none⟩) hlt2).trans d0, (hb.cell (p := ⟨gy, oy + 1, none⟩) hlt2).trans d1⟩
  have hwd := (Below.refl w.heap.size w).drew
  clear hax hay a1 a2 b1 b2 hlt hlt2
  go_enter Tryd.func102, Tryd.ntmps102
  go_wp2_with fail
  go_region_held3 (fun w' => (w'.cell? ⟨gx, ox, none⟩ = some (.bool n1) ∧ w'.cell? ⟨gx, ox + 1, none⟩ = some (.slice A m c)) ∧ w'.cell? ⟨gy, oy, none⟩ = some (.bool n2) ∧ w'.cell? ⟨gy, oy + 1, none⟩ = some (.slice A2 n c2)) (first | exact KP.out _ hP | exact KB.out _ (hwd.trans hb) | exact KB.out _ hwd) (first | (go_at_call 125; refine (HC.out _ hwd).mono ?_; rintro e w1 ⟨hb, _, rfl, A1, c1, rfl, hR1⟩) | (go_at_call 108; refine (give_puts w _ g o _ z0 p _ _ HZ.out (hwd.trans hb) hR1 HF.out).mono ?_; rintro e w2 ⟨rfl, hP⟩))
  all_goals (go_wp2_with fail; go_ret; exact ⟨rfl, hP⟩)


set_option maxHeartbeats 1000000 in
theorem quorem_z (g o gr orr gx ox gy oy : Nat) (z0 r0 x y : Int) (w : World) (hz : At w g o z0) (hr : At w gr orr r0) (hx : At w gx ox x) (hy : At w gy oy y) (har : ¬ (gr = g ∧ orr = o)) (h0 : 0 ≤ x) (hs : wc x.natAbs ≤ 50000) (hF : Fair y.natAbs) (h1 : 0 ≤ y) :
    Calls Tryd.prog 86 #[.pointer (some ⟨g, o, none⟩), .pointer (some ⟨gx, ox, none⟩), .pointer (some ⟨gy, oy, none⟩), .pointer (some ⟨gr, orr, none⟩)] w fun e w' =>
      e = .returned (.tuple #[.pointer (some ⟨g, o, none⟩), .pointer (some ⟨gr, orr, none⟩)]) ∧ ∃ wn wm, Below w.heap.size w wn ∧ Puts wn wm g o ((x.natAbs / y.natAbs : Nat) : Int) ∧ Puts wm w' gr orr ((x.natAbs % y.natAbs : Nat) : Int) := by
  have HZ := Lib.hid hz
  have HRr := Lib.hid hr
  have hlt := hx.lt
  have hlt2 := hy.lt
  obtain ⟨_, c0, ⟨A, c, c1, hR⟩, _, _⟩ := hx
  obtain ⟨_, d0, ⟨A2, c2, d1, hR2⟩, _, _⟩ := hy
  rw [decide_eq_false (show ¬ x < 0 by omega)] at c0
  rw [decide_eq_false (show ¬ y < 0 by omega)] at d0
  have HC := Lib.hid (fun w' hb => div_any A A2 c c2 x.natAbs y.natAbs w' (hR.below hb) (hR2.below hb) hs hF)
  unfold DivOut at HC
  clear hz hr hR hR2 h0 h1 hF
  generalize x.natAbs / y.natAbs = q at *
  generalize x.natAbs % y.natAbs = r at *
  generalize wc x.natAbs = m at *
  generalize wc y.natAbs = n at *
  have HN := Lib.hid (fun (t : Nat) => show (false && decide (0 < (t : Int).natAbs)) = decide ((t : Int) < 0) by simp)
  go_enter Tryd.func86, Tryd.ntmps86
  go_wp2_with fail
  go_quiet (fail)
  go_wp2_with fail
  have hbq : Below w.heap.size w (w.drewN nq).drew := below_drewN (Below.refl _ w) (nq + 1)
  go_region_held3 (fun w' => w'.cell? ⟨gx, ox + 1, none⟩ = some (.slice A m c) ∧ w'.cell? ⟨gy, oy + 1, none⟩ = some (.slice A2 n c2)) (first | exact ⟨c1, d1⟩ | exact ⟨(hb.cell (p := ⟨gx, ox + 1, none⟩) hlt).trans c1, (hb.cell (p := ⟨gy, oy + 1, none⟩) hlt2).trans d1⟩) (first | (go_at_call 117; refine (HC.out _ hbq).mono ?_; rintro e w1 ⟨hb, _, _, rfl, ⟨A1, c3, rfl, hR1⟩, ⟨A4, c4, rfl, hR4⟩⟩))
  have hb1 : Below w.heap.size w w1 := hbq.trans hb
  clear hb hbq
  go_wp2_with fail
  refine (give_puts w1 w1 g o c3 z0 (q : Int) false A1 (HZ.out.below hb1) (Below.refl _ _) hR1 (HN.out q)).mono ?_
  rintro e w2 ⟨rfl, hP⟩
  have hr2 : At w2 gr orr r0 := (HRr.out.below hb1).put (HZ.out.below hb1) hP har
  have hR5 := Row32.put hR4 (HZ.out.below hb1) hP
  go_wp2_with fail
  refine (give_puts w2 w2 gr orr c4 r0 (r : Int) false A4 hr2 (Below.refl _ _) hR5 (HN.out r)).mono ?_
  rintro e w3 ⟨rfl, hP2⟩
  go_wp2_with fail
  go_ret2
  exact ⟨rfl, w1, w2, hb1, hP, hP2⟩
end Go.Proofs.YtjjfkidddjcdcaaDoor
