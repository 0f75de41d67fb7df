/- Proved here: contracts of package enclosurebig's Rat.Add (of ratios over powers of two that are not below 0) at this program. Conditions: as each theorem says. -/
import Derived.Test.YtjjfkidddjcdcaaDoorPow2
import Derived.Test.YtjjfkidddjcdcaaDoorIntAdd
import Derived.Test.YtjjfkidddjcdcaaDoorNewInts
import Derived.Deep.CutRange
namespace Go.Proofs.YtjjfkidddjcdcaaDoor
open Go.ChangeShapes Go.WideShapes Go.ChangeAt Go.RowKit

/-- What a sum in a new Int leaves. -/
def AddNew (w : World) (b : Nat) (z : Int) (e : Ending) (w' : World) : Prop := e = .returned (.pointer (some ⟨b, 0, none⟩)) ∧ Below w.heap.size w w' ∧ At w' b 0 z
theorem add_new (w wc : World) (b b1 b2 : Nat) (x y : Int) (hb : Below w.heap.size w wc) (hz : At wc b 0 0) (hge : w.heap.size ≤ b) (h1 : At wc b1 0 x) (h2 : At wc b2 0 y) (hx : 0 ≤ x) (hy : 0 ≤ y) (hs : Go.Proofs.YtjjfkidddjcdcaaDoor.wc x.natAbs ≤ 50000) (hs2 : Go.Proofs.YtjjfkidddjcdcaaDoor.wc y.natAbs ≤ 50000) :
    Calls Tryd.prog 77 #[.pointer (some ⟨b, 0, none⟩), .pointer (some ⟨b1, 0, none⟩), .pointer (some ⟨b2, 0, none⟩)] wc (AddNew w b (x + y)) := by
  refine (add_z b 0 b1 0 b2 0 0 x y wc hz h1 h2 hx hy hs hs2).mono ?_
  rintro e w' ⟨rfl, hP⟩
  exact ⟨rfl, hP.below hb hge hb.size, hP.at_⟩

set_option maxRecDepth 100000 in
set_option maxHeartbeats 20000000 in
theorem ratadd_gen (g gx gy kx ky : Nat) (x y : Int) (w : World) (hz1 : At w g 0 0) (hz2 : At w g 2 0) (hx : RatAt w gx x kx) (hy : RatAt w gy y ky) (hx0 : 0 ≤ x) (hy0 : 0 ≤ y) (h1 : wc x.natAbs ≤ 20000) (h2 : wc y.natAbs ≤ 20000) (h3 : wc (x * ((2 ^ ky : Nat) : Int)).natAbs ≤ 50000) (h4 : wc (y * ((2 ^ kx : Nat) : Int)).natAbs ≤ 50000) (hk1 : kx ≤ 300000) (hk2 : ky ≤ 300000)
    (R : World → World → Prop) (hSF : ∀ wq ga gb, At wq g 0 0 → At wq g 2 0 → At wq ga 0 (x * ((2 ^ ky : Nat) : Int) + y * ((2 ^ kx : Nat) : Int)) → At wq gb 0 ((2 ^ (kx + ky) : Nat) : Int) →
      Calls Tryd.prog 101 #[.pointer (some ⟨g, 0, none⟩), .pointer (some ⟨ga, 0, none⟩), .pointer (some ⟨gb, 0, none⟩)] wq fun e w' => e = .returned (.pointer (some ⟨g, 0, none⟩)) ∧ R wq w')
    (hR : ∀ w1 w', Below w.heap.size w w1 → R w1 w' → R w w') :
    Calls Tryd.prog 121 #[.pointer (some ⟨g, 0, none⟩), .pointer (some ⟨gx, 0, none⟩), .pointer (some ⟨gy, 0, none⟩)] w fun e w' => e = .returned (.pointer (some ⟨g, 0, none⟩)) ∧ R w w' := by
  have HZ1 := Lib.hid hz1
  have HZ2 := Lib.hid hz2
  have HX := Lib.hid hx
  have HY := Lib.hid hy
  have wx2 : wc ((2 ^ kx : Nat) : Int).natAbs ≤ 50000 := by show wc (2 ^ kx) ≤ 50000; rw [wc_pow]; omega
  have wy2 : wc ((2 ^ ky : Nat) : Int).natAbs ≤ 50000 := by show wc (2 ^ ky) ≤ 50000; rw [wc_pow]; omega
  have M1 := Lib.hid (fun wq b hb hz hge => mul_nw w wq b gx 0 gy 2 x _ hx.1 hy.2 (by omega) wy2 hb hz hge)
  have M2 := Lib.hid (fun wq b hb hz hge => mul_nw w wq b gy 0 gx 2 y _ hy.1 hx.2 (by omega) wx2 hb hz hge)
  have hp1 : 0 ≤ x * ((2 ^ ky : Nat) : Int) := Int.mul_nonneg hx0 (Int.natCast_nonneg _)
  have hp2 : 0 ≤ y * ((2 ^ kx : Nat) : Int) := Int.mul_nonneg hy0 (Int.natCast_nonneg _)
  have AD := Lib.hid (fun wq b b1 b2 hb hz hge q1 q2 => add_new w wq b b1 b2 _ _ hb hz hge q1 q2 hp1 hp2 h3 h4)
  have SF := Lib.hid hSF
  have HRR := Lib.hid hR
  have M3 := Lib.hid (fun (wv wq : World) b (q1 : At wv gx 2 _) (q2 : At wv gy 2 _) hb hz hge => mul_new wv wq b gx 2 gy 2 _ _ q1 q2 wx2 wy2 hb hz hge)
  rw [show ((2 ^ kx : Nat) : Int) * ((2 ^ ky : Nat) : Int) = ((2 ^ (kx + ky) : Nat) : Int) by rw [← Int.natCast_mul, ← Nat.pow_add]] at M3
  have tok1 : True := trivial
  have tok2 : True := trivial
  have KD0 := Lib.hid (Below.refl w.heap.size w).drew
  have KD1 := Lib.hid (below_up (Below.refl w.heap.size w)).drew
  have KD2 := Lib.hid (below_up (below_up (Below.refl w.heap.size w))).drew
  have KD3 := Lib.hid (below_up (below_up (below_up (Below.refl w.heap.size w)))).drew
  clear hz1 hz2 hx hy h1 h2 h3 h4 wx2 wy2 hx0 hy0 hp1 hp2 hSF hR
  generalize hX : x * ((2 ^ ky : Nat) : Int) = X at *
  generalize hY : y * ((2 ^ kx : Nat) : Int) = Y at *
  clear hX hY
  go_enter Tryd.func121, Tryd.ntmps121
  go_wp2_with fail
  go_cut [7] from 8 to 23 (fun s7 wx => ∃ b, s7 = .pointer (some ⟨b, 0, none⟩) ∧ Hid (Below w.heap.size w wx ∧ At wx b 0 (X + Y)))
  case first => as_aux_lemma =>
    go_region_with (first
      | (go_at_call 103; have _t := tok1; clear tok1; refine (den_z gy ky y _ (HY.out.below (by (first | (with_reducible exact KD0.out) | (with_reducible exact KD1.out) | (with_reducible exact KD2.out) | (with_reducible exact KD3.out))))).mono ?_; rintro e wq ⟨rfl, rfl⟩)
      | (go_at_call 102; have _t := tok2; clear tok2; refine (M1.out _ _ ?hb ?hz ?hg).mono ?_; (case hb => (first | (with_reducible exact KD0.out) | (with_reducible exact KD1.out) | (with_reducible exact KD2.out) | (with_reducible exact KD3.out))); (case hz => (first | (with_reducible refine (zero_new ?q).drew; (case q => simp; done)) | (with_reducible refine ((zero_new ?q).up).drew; (case q => simp; done)) | (with_reducible refine ((zero_new ?q).up.up).drew; (case q => simp; done)))); (case hg => (first | (exact Nat.le_refl _) | (omega))); rintro e w1 ⟨⟨rfl, hb1, ha1, hk1⟩, s1⟩; (try simp at s1))
      | (go_at_call 103; refine (den_z gx kx x _ (HX.out.below (by (first | (with_reducible exact hb1) | (with_reducible exact below_up hb1) | (with_reducible exact below_up (below_up hb1)))))).mono ?_; rintro e wq ⟨rfl, rfl⟩)
      | (go_at_call 102; refine (M2.out _ _ ?hb ?hz ?hg).mono ?_; (case hb => (first | (with_reducible exact hb1) | (with_reducible exact below_up hb1) | (with_reducible exact below_up (below_up hb1)))); (case hz => (first | (with_reducible refine zero_new ?q; (case q => simp; done)) | (with_reducible refine (zero_new ?q).up; (case q => simp; done)) | (with_reducible refine hk1 _ _ ?ne ((zero_new ?q).drew); (case ne => omega); (case q => simp; done)) | (with_reducible refine hk1 _ _ ?ne (((zero_new ?q).up).drew); (case ne => omega); (case q => simp; done)) | (with_reducible refine hk1 _ _ ?ne (((zero_new ?q).up.up).drew); (case ne => omega); (case q => simp; done)) | (with_reducible refine (hk1 _ _ ?ne ((zero_new ?q).drew)).up; (case ne => omega); (case q => simp; done)) | (with_reducible refine (hk1 _ _ ?ne (((zero_new ?q).up).drew)).up; (case ne => omega); (case q => simp; done)) | (with_reducible refine (hk1 _ _ ?ne (((zero_new ?q).up.up).drew)).up; (case ne => omega); (case q => simp; done)))); (case hg => (first | (exact Nat.le_refl _) | (omega))); rintro e w2 ⟨⟨rfl, hb2, ha2, hk2⟩, s2⟩; (try simp at s2))
      | (go_at_call 77; refine (AD.out _ _ _ _ ?hb ?hz ?hg ?q1 ?q2).mono ?_; (case hb => (first | (with_reducible exact hb2) | (with_reducible exact below_up hb2))); (case hz => (first | (with_reducible refine zero_new ?q; (case q => simp; done)) | (with_reducible refine hk2 _ _ ?ne (zero_new ?q); (case ne => omega); (case q => simp; done)) | (with_reducible refine hk2 _ _ ?ne (zero_new ?q).up; (case ne => omega); (case q => simp; done)) | (with_reducible refine hk2 _ _ ?ne2 (hk1 _ _ ?ne ((zero_new ?q).drew)); (case ne => omega); (case ne2 => omega); (case q => simp; done)) | (with_reducible refine hk2 _ _ ?ne2 (hk1 _ _ ?ne (((zero_new ?q).up).drew)); (case ne => omega); (case ne2 => omega); (case q => simp; done)) | (with_reducible refine hk2 _ _ ?ne2 (hk1 _ _ ?ne (((zero_new ?q).up.up).drew)); (case ne => omega); (case ne2 => omega); (case q => simp; done)) | (with_reducible refine hk2 _ _ ?ne2 ((hk1 _ _ ?ne ((zero_new ?q).drew)).up); (case ne => omega); (case ne2 => omega); (case q => simp; done)) | (with_reducible refine hk2 _ _ ?ne2 ((hk1 _ _ ?ne (((zero_new ?q).up).drew)).up); (case ne => omega); (case ne2 => omega); (case q => simp; done)) | (with_reducible refine hk2 _ _ ?ne2 ((hk1 _ _ ?ne (((zero_new ?q).up.up).drew)).up); (case ne => omega); (case ne2 => omega); (case q => simp; done)))); (case hg => (first | (exact Nat.le_refl _) | (omega))); (case q1 => (first | (with_reducible refine hk2 _ _ ?ne (ha1); (case ne => omega)) | (with_reducible refine hk2 _ _ ?ne ((ha1).up); (case ne => omega)) | (with_reducible refine hk2 _ _ ?ne ((ha1).up.up); (case ne => omega)) | (with_reducible refine (hk2 _ _ ?ne (ha1)).up; (case ne => omega)) | (with_reducible refine (hk2 _ _ ?ne ((ha1).up)).up; (case ne => omega)))); (case q2 => (first | (with_reducible exact ha2) | (with_reducible exact ha2.up))); rintro e w3 ⟨rfl, hb3, ha3⟩))
    all_goals (go_wp2_with fail; go_meet; exact ⟨_, rfl, hb3, ha3⟩)
  case rest =>
    obtain ⟨b, rfl, hH⟩ := hcut
    obtain ⟨w1, hw1⟩ : ∃ w1, w1 = wc := ⟨_, rfl⟩
    subst hw1
    obtain ⟨hb1, ha1⟩ := hH.out
    have h1x := HX.out.below hb1
    have h1y := HY.out.below hb1
    have hb2 := hb1.alloc hb1.size (Obj.cells #[.bool false, .slice none 0 0] 101)
    have M4 := Lib.hid (M3.out w1 _ w1.heap.size h1x.2 h1y.2 (below_new w1 _) (At.zero w1) (Nat.le_refl _))
    have HX2 := Lib.hid (HX.out.below hb2)
    have HY2 := Lib.hid (HY.out.below hb2)
    have HA1 := Lib.hid ha1
    have HB1 := Lib.hid hb1
    clear hH hb1 ha1 h1x h1y hb2 tok1 tok2 KD0 KD1 KD2 KD3 M1 M2 AD
    go_wp2_with fail
    refine (den_z gx kx x _ HX2.out).mono ?_
    rintro e wa ⟨rfl, rfl⟩
    go_wp2_with fail
    refine (den_z gy ky y _ HY2.out).mono ?_
    rintro e wb ⟨rfl, rfl⟩
    go_wp2_with fail
    refine M4.out.mono ?_
    rintro e w2 ⟨rfl, hb2, ha2, hk2⟩
    have hb02 : Below w.heap.size w w2 := HB1.out.trans (hb2.mono HB1.out.size)
    have HB02 := Lib.hid hb02
    have SF2 := Lib.hid (SF.out w2 b w1.heap.size (HZ1.out.below hb02) (HZ2.out.below hb02) (HA1.out.below hb2) ha2)
    clear hb2 ha2 hk2 hb02 M4 HX2 HY2
    go_wp2_with fail
    refine SF2.out.mono ?_
    rintro e w3 ⟨rfl, hP⟩
    have HP := Lib.hid (HRR.out _ _ HB02.out hP)
    clear hP SF2
    go_wp2_with fail
    go_ret
    exact ⟨rfl, HP.out⟩
end Go.Proofs.YtjjfkidddjcdcaaDoor
