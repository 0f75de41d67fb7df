/- Proved here: the contract of the document's pow2 at this program. Conditions: powers from -20000 to 20000. -/
import Derived.Test.YtjjfkidddjcdcaaDoorRatMul
import Derived.Test.YtjjfkidddjcdcaaDoorNear1
namespace Go.Proofs.YtjjfkidddjcdcaaDoor
open Go.ChangeShapes Go.WideShapes Go.ChangeAt Go.RowKit

theorem ratzero1 (w : World) : At (w.alloc (Obj.cells #[.bool false, .slice none 0 0, .bool false, .slice none 0 0] 103)) w.heap.size 0 0 :=
  ⟨by simp, by simp [go_sem], ⟨none, 0, by simp [go_sem, wc_zero], fun h => by simp [wc_zero] at h⟩, by simp [go_sem], by simp [go_sem]⟩
theorem ratzero2 (w : World) : At (w.alloc (Obj.cells #[.bool false, .slice none 0 0, .bool false, .slice none 0 0] 103)) w.heap.size 2 0 :=
  ⟨by simp, by simp [go_sem], ⟨none, 0, by simp [go_sem, wc_zero], fun h => by simp [wc_zero] at h⟩, by simp [go_sem], by simp [go_sem]⟩

/-- At block g lies a ratio as great as a over 2^k. -/
def RatIs (w : World) (g : Nat) (a : Int) (k : Nat) : Prop := ∃ a' j, RatAt w g a' j ∧ a' * 2 ^ k = a * 2 ^ j ∧ a'.natAbs ≤ a.natAbs ∧ j ≤ k ∧ (a < 0 → a' < 0) ∧ (0 ≤ a → 0 ≤ a')
theorem RatIs.below {w w' : World} {g k : Nat} {a : Int} (h : RatIs w g a k) (hb : Below w.heap.size w w') : RatIs w' g a k := by
  obtain ⟨a', j, h1, h2⟩ := h
  exact ⟨a', j, h1.below hb, h2⟩
theorem new_rat {w w1 w' : World} {a : Int} {k g : Nat} (hb : Below w.heap.size w w1) (hg : w.heap.size ≤ g) (hP : RatPut w1 w' g a k) : Below w.heap.size w w' ∧ RatIs w' g a k :=
  ⟨hb.trans (below_of_grown hP.1 _ hg hb.size), hP.2⟩

set_option maxRecDepth 100000 in
set_option maxHeartbeats 1000000 in
theorem pow2_z (e : Int) (w : World) (h1 : -20000 ≤ e) (h2 : e ≤ 20000) :
    Calls Tryd.prog 71 #[.int .i64 e] w fun en w' => Below w.heap.size w w' ∧ ∃ g, en = .returned (.pointer (some ⟨g, 0, none⟩)) ∧ w.heap.size ≤ g ∧ RatIs w' g ((2 ^ e.toNat : Nat) : Int) (-e).toNat := by
  obtain ⟨t, ht⟩ : ∃ t : Nat, max e (-e) = t := ⟨(max e (-e)).toNat, by omega⟩
  have hb0 := below_new w (Obj.cells #[.bool false, .slice none 0 0] 101)
  have hz0 := At.zero w
  have hsz0 : (w.alloc (Obj.cells #[.bool false, .slice none 0 0] 101)).heap.size = w.heap.size + 1 := by simp
  go_enter Tryd.func71, Tryd.ntmps71
  go_wp2_with fail
  generalize w.alloc (Obj.cells #[.bool false, .slice none 0 0] 101) = w1 at *
  refine (newint_z 1 w1 (by omega) (by omega)).mono ?_
  rintro en w2 ⟨hb2, rfl, ho⟩
  have hz2 := hz0.below hb2
  have hb02 := hb0.trans (hb2.mono hb0.size)
  have ho' : At w2 w1.heap.size 0 ((1 : Nat) : Int) := ho
  rw [hsz0] at ho'
  go_wp2_with fail
  refine (lsh_n w.heap.size 0 (w.heap.size + 1) 0 t 1 0 w2 hz2 ho' (by decide) (by omega)).mono ?_
  rintro en w3 ⟨rfl, hP⟩
  have hb03 : Below w.heap.size w w3 := hP.below hb02 (Nat.le_refl _) hb02.size
  have hn := hP.at_
  rw [Nat.one_mul] at hn
  have ho3 := ho'.put hz2 hP (by omega)
  have hw3 := hn.lt
  clear hP hb2 hb0 hb02 hz0 hz2 ho ho'
  by_cases h0 : 0 ≤ e
  · have HTE : Hid (t = e.toNat) := by show _ = _; omega
    have HKE : Hid ((-e).toNat = 0) := by show _ = _; omega
    go_wp2_with fail
    refine (setint_r w3.heap.size w.heap.size 0 0 0 ((2 ^ t : Nat) : Int) _ (ratzero1 w3) (ratzero2 w3) (hn.below (below_new w3 _)) (by show wc (2 ^ t) ≤ 50000; rw [wc_pow]; omega)).mono ?_
    rintro en w4 ⟨rfl, hP⟩
    obtain ⟨hb, hr⟩ := new_rat (hb03.alloc hb03.size _) hb03.size hP
    go_wp2_with fail
    go_ret
    exact ⟨hb, _, rfl, hb03.size, by rw [HKE.out, ← HTE.out]; exact hr⟩
  · have HTE : Hid (t = (-e).toNat) := by show _ = _; omega
    have HKE : Hid (e.toNat = 0) := by show _ = _; omega
    have b4 : Below w.heap.size w (w3.alloc (Obj.cells #[.bool false, .slice none 0 0, .bool false, .slice none 0 0] 103)) := hb03.alloc hb03.size _
    have z41 := ratzero1 w3
    have z42 := ratzero2 w3
    have n4 := hn.below (below_new w3 (Obj.cells #[.bool false, .slice none 0 0, .bool false, .slice none 0 0] 103))
    have hs3 := hb03.size
    go_wp2_with fail
    generalize w3.alloc (Obj.cells #[.bool false, .slice none 0 0, .bool false, .slice none 0 0] 103) = w4 at *
    refine (newint_z 1 w4 (by omega) (by omega)).mono ?_
    rintro en w5 ⟨hb5, rfl, ho5⟩
    go_wp2_with fail
    refine (setfrac_z w3.heap.size w4.heap.size 0 w.heap.size 0 t 0 0 1 w5 (z41.below hb5) (z42.below hb5) ho5 (n4.below hb5) (by decide) (by omega)).mono ?_
    rintro en w6 ⟨rfl, hP⟩
    obtain ⟨hb, hr⟩ := new_rat (b4.trans (hb5.mono b4.size)) hs3 hP
    go_wp2_with fail
    go_ret
    exact ⟨hb, _, rfl, hs3, by rw [HKE.out, ← HTE.out]; exact hr⟩
end Go.Proofs.YtjjfkidddjcdcaaDoor
