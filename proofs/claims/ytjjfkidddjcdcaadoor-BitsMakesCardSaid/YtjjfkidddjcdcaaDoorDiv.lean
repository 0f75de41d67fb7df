/- Proved here: the contract of package enclosurebig's div at this program, where the divisor is one word or a power of two. Conditions: as each theorem says. -/
import Derived.Test.YtjjfkidddjcdcaaDoorCopyWords
namespace Go.Proofs.YtjjfkidddjcdcaaDoor
open Go.ChangeShapes Go.WideShapes Go.ChangeAt Go.RowKit

/-- What div gives back. -/
def DivOut (w : World) (u v : Nat) (e : Ending) (w' : World) : Prop := Below w.heap.size w w' ∧ ∃ s t, e = .returned (.tuple #[s, t]) ∧ Num w' s (u / v) ∧ Num w' t (u % v)

set_option maxRecDepth 100000 in
set_option maxHeartbeats 1000000 in
theorem div_less (A A2 : Option Addr) (c c2 u v : Nat) (w : World) (hR : Row32 w A (wc u) (dig u)) (hR2 : Row32 w A2 (wc v) (dig v)) (hu : wc u ≤ 100000) (hv : wc v ≤ 100000) (hlt : u < v) :
    Calls Tryd.prog 117 #[.slice A (wc u) c, .slice A2 (wc v) c2] w (DivOut w u v) := by
  have hn0 := wc_pos (show 0 < v by omega)
  have HQ := Lib.hid (Nat.div_eq_of_lt hlt)
  have HM := Lib.hid (Nat.mod_eq_of_lt hlt)
  have C1 := Lib.hid (cmp_any A A2 c c2 u v w hR hR2 (by omega) (by omega))
  rw [show cmpN u v = -1 from by unfold cmpN; rw [if_pos hlt]] at C1
  have C2 := Lib.hid (fun w' (hb : Below w.heap.size w w') => twin_any A c u w' (hR.below hb) (by omega))
  clear hR hR2 hlt
  go_enter Tryd.func117, Tryd.ntmps117
  go_wp2_with fail
  refine C1.out.mono ?_
  rintro e w1 ⟨hb1, rfl⟩
  go_wp2_with fail
  refine (C2.out w1 hb1).mono ?_
  rintro e w2 ⟨hb2, s, rfl, hs⟩
  go_wp2_with fail
  go_ret2
  refine ⟨hb1.trans (hb2.mono hb1.size), _, s, rfl, ?_, ?_⟩
  · rw [HQ.out]; exact Num.nil _
  · rw [HM.out]; exact hs

theorem wrap_quo (u v : Nat) (h : u / v < 18446744073709551616) : IntKind.u64.wrap ((u : Int) / v) = ((u / v : Nat) : Int) := by
  rw [← Int.natCast_ediv, wrap_u64_nat _ h]
theorem cmp_ge {u v : Nat} (h : v ≤ u) : 0 ≤ cmpN u v := by
  unfold cmpN
  rw [if_neg (by omega)]
  split <;> omega

set_option maxRecDepth 100000 in
set_option maxHeartbeats 1000000 in
theorem div_short (A A2 : Option Addr) (c c2 u v : Nat) (w : World) (hR : Row32 w A (wc u) (dig u)) (hR2 : Row32 w A2 (wc v) (dig v)) (hu : wc u ≤ 2) (h0 : 0 < v) (hle : v ≤ u) :
    Calls Tryd.prog 117 #[.slice A (wc u) c, .slice A2 (wc v) c2] w (DivOut w u v) := by
  have hn0 := wc_pos h0
  have hv : wc v ≤ 2 := Nat.le_trans (wc_mono hle) hu
  have hub : u < 18446744073709551616 := Nat.lt_of_lt_of_le (lt_wc u) (B_le hu)
  have hvb : v < 18446744073709551616 := by omega
  have C1 := Lib.hid (cmp_any A A2 c c2 u v w hR hR2 (by omega) (by omega))
  have hc := cmp_ge hle
  generalize cmpN u v = cm at *
  have C2 := Lib.hid (fun w' (hb : Below w.heap.size w w') => plain_any A c u w' (hR.below hb) hub)
  have C3 := Lib.hid (fun w' (hb : Below w.heap.size w w') => plain_any A2 c2 v w' (hR2.below hb) hvb)
  have hq := Nat.div_le_self u v
  have hm := Nat.mod_le u v
  have eq1 : IntKind.u64.wrap ((u : Int) / v) = ((u / v : Nat) : Int) := wrap_quo u v (by omega)
  have hv0 : ¬ v = 0 := by omega
  unfold DivOut
  generalize u / v = q at *
  clear hR hR2 hle
  generalize wc u = m at *
  generalize wc v = n at *
  go_enter Tryd.func117, Tryd.ntmps117
  go_wp2_with fail
  refine C1.out.mono ?_
  rintro e w1 ⟨hb1, rfl⟩
  go_wp2_with fail
  refine (C2.out w1 hb1).mono ?_
  rintro e w2 ⟨rfl, rfl⟩
  go_wp2_with fail
  refine (C3.out w2 hb1).mono ?_
  rintro e w3 ⟨rfl, rfl⟩
  go_wp2_with fail
  go_region_with (first | (go_at_call 112; refine (words_any _ _ (by omega)).mono ?_; rintro e w4 ⟨hb4, s, rfl, hs⟩))
  rename_i wa hba sa hsa
  go_wp2_with fail
  go_ret2
  have hba2 : Below w3.heap.size w3 wa := (Below.refl _ w3).drew.trans hba
  exact ⟨hb1.trans ((hba2.mono hb1.size).trans (hb4.mono (Nat.le_trans hb1.size hba2.size))), sa, s, rfl, hsa.below hb4, hs⟩

set_option maxRecDepth 100000 in
set_option maxHeartbeats 1000000 in
theorem div_one (A A2 : Option Addr) (c c2 u v : Nat) (w : World) (hR : Row32 w A (wc u) (dig u)) (hR2 : Row32 w A2 (wc v) (dig v)) (hu : 2 < wc u) (hu2 : wc u ≤ 100000) (h0 : 0 < v) (hvb : v < 4294967296) :
    Calls Tryd.prog 117 #[.slice A (wc u) c, .slice A2 (wc v) c2] w (DivOut w u v) := by
  have hv1 : wc v = 1 := by
    have := wc_pos h0
    have := wc_le (v := v) (n := 1) hvb
    omega
  have hle : v ≤ u := by
    have h1 := le_of_wc hu
    have h2 := lt_wc v
    have h3 := B_le (show wc v ≤ 2 by omega)
    omega
  have C1 := Lib.hid (cmp_any A A2 c c2 u v w hR hR2 (by omega) (by omega))
  have hc := cmp_ge hle
  generalize cmpN u v = cm at *
  have C2 := Lib.hid (fun w' (hb : Below w.heap.size w w') => small_any A c u v w' (hR.below hb) hu2 h0 hvb)
  obtain ⟨b, off, rfl, hb, hcell⟩ := hR2 (by omega)
  have c0 := hcell 0 (by omega)
  rw [dig_low, Nat.mod_eq_of_lt hvb, Nat.add_zero] at c0
  have CB : ∀ w', Below w.heap.size w w' → w'.cell? ⟨b, off, none⟩ = some (.int .u32 v) := fun w' hb' => (hb'.cell (p := ⟨b, off, none⟩) hb).trans c0
  have HB := Lib.hid CB
  rw [hv1] at C1 ⊢
  clear hR hR2 hle hcell CB c0 hv1
  unfold DivOut
  obtain ⟨r, hr⟩ : ∃ r, u % v = r := ⟨_, rfl⟩
  have hrb : r < 4294967296 := by rw [← hr]; exact Nat.lt_trans (Nat.mod_lt _ h0) hvb
  have HR0 := Lib.hid hr
  rw [hr] at C2 ⊢
  clear hr
  generalize wc u = m at *
  go_enter Tryd.func117, Tryd.ntmps117
  go_wp2_with fail
  refine C1.out.mono ?_
  rintro e w1 ⟨hb1, rfl⟩
  have c1 := HB.out w1 hb1
  go_wp2_with fail
  refine (C2.out w1 hb1).mono ?_
  rintro e w2 ⟨hb2, s, rfl, hs⟩
  go_wp2_with fail
  have hR32 : Row32 (w2.alloc (Obj.cells #[Value.int IntKind.u32 (r : Int)] 138)) (some ⟨w2.heap.size, 0, none⟩) 1 (dig r) := fun _ =>
    ⟨w2.heap.size, 0, rfl, by simp, fun j hj => by
      obtain rfl : j = 0 := by omega
      rw [dig_low, Nat.mod_eq_of_lt hrb]; simp [go_sem]⟩
  refine (trim_any _ 1 1 r _ hR32 (by show r < B 1; exact hrb) (by omega) (by omega)).mono ?_
  rintro e w3 ⟨rfl, t, rfl, ht⟩
  go_wp2_with fail
  go_ret2
  refine ⟨(hb1.trans (hb2.mono hb1.size)).alloc (Nat.le_trans hb1.size hb2.size) _, s, t, rfl, hs.below ((Below.refl _ _).alloc (Nat.le_refl _) _), ht⟩
end Go.Proofs.YtjjfkidddjcdcaaDoor
