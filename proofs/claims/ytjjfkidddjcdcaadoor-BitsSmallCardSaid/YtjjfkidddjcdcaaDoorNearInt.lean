/- Proved here: the contract of the document's nearInt (of a ratio that is not below 0, over a power of two) at this program. Conditions: as the theorem says. -/
import Derived.Test.YtjjfkidddjcdcaaDoorRatOf
namespace Go.Proofs.YtjjfkidddjcdcaaDoor
open Go.ChangeShapes Go.WideShapes Go.ChangeAt Go.RowKit

set_option maxRecDepth 100000 in
set_option maxHeartbeats 1000000 in
theorem nearint_z (g n k : Nat) (w : World) (h : RatAt w g (n : Int) k) (hn : wc n ≤ 10000) (hk : k ≤ 300000) :
    Calls Tryd.prog 76 #[.pointer (some ⟨g, 0, none⟩)] w fun e w' => Below w.heap.size w w' ∧ ∃ gz, e = .returned (.pointer (some ⟨gz, 0, none⟩)) ∧ At w' gz 0 ((PL.rneG n (2 ^ k) : Nat) : Int) := by
  have HH := Lib.hid h
  have hlt := h.1.lt
  have hF : Fair (2 ^ k) := ⟨Nat.two_pow_pos k, by rw [wc_pow]; omega, .inr ⟨k, rfl⟩⟩
  have HFa := Lib.hid hF
  have hwd : wc (2 ^ k) ≤ 10000 := by rw [wc_pow]; omega
  have HUp := Lib.hid (round_up n (2 ^ k))
  have hr2 : wc (n % 2 ^ k * 2 ^ 1) ≤ 20000 := by
    have h1 : n % 2 ^ k < 2 ^ k := Nat.mod_lt _ (Nat.two_pow_pos k)
    have h2 := wc_shift 1 1 h1 (Nat.le_refl _)
    rw [wc_pow] at hwd
    omega
  have hrb : wc (n % 2 ^ k) ≤ 20000 := Nat.le_trans (wc_mono (Nat.mod_le n _)) (by omega)
  have hqb : wc (n / 2 ^ k) ≤ 20000 := Nat.le_trans (wc_mono (Nat.div_le_self n _)) (by omega)
  clear h hF
  obtain ⟨d, hd⟩ : ∃ d, 2 ^ k = d := ⟨_, rfl⟩
  have HDe := Lib.hid hd
  rw [hd] at HFa hwd HUp hr2 hrb hqb ⊢
  clear hd
  obtain ⟨Q, hQ0⟩ : ∃ Q, PL.rneG n d = Q := ⟨_, rfl⟩
  rw [hQ0] at HUp ⊢
  clear hQ0
  have z0 := At.zero w
  have b0 := below_new w (Obj.cells #[.bool false, .slice none 0 0] 101)
  go_enter Tryd.func76, Tryd.ntmps76
  go_wp2_with fail
  generalize w.alloc (Obj.cells #[.bool false, .slice none 0 0] 101) = w1 at *
  refine (num_z g w1).mono ?_
  rintro e wx ⟨rfl, rfl⟩
  go_wp2_with fail
  refine (denom_z g k (n : Int) wx (HH.out.below b0) (by omega)).mono ?_
  rw [HDe.out]
  rintro e w2 ⟨rfl, hb2, hd2⟩
  have b2 := b0.trans (hb2.mono b0.size)
  have z2 := z0.below hb2
  have hz0 : w.heap.size < wx.heap.size := z0.lt
  generalize hgd : wx.heap.size = gd at *
  have b3 : Below w.heap.size w (w2.alloc (Obj.cells #[.bool false, .slice none 0 0] 101)) := b2.alloc b2.size _
  have k3 := below_new w2 (Obj.cells #[.bool false, .slice none 0 0] 101)
  have z3 := At.zero w2
  have z23 := z2.below k3
  have d3 := hd2.below k3
  have hs2 : gd < w2.heap.size := hd2.lt
  clear hd2 hb2 z0 z2 k3
  go_wp2_with fail
  generalize w2.alloc (Obj.cells #[.bool false, .slice none 0 0] 101) = w3 at *
  generalize hgr : w2.heap.size = gr at *
  refine (quorem_z w.heap.size 0 gr 0 g 0 gd 0 0 0 (n : Int) (d : Int) w3 z23 z3 (HH.out.below b3).1 d3 (by omega) (by omega) (Nat.le_trans hn (by omega)) HFa.out (by omega)).mono ?_
  rintro e w4 ⟨rfl, wn, wm, hbn, hP, hP2⟩
  have hzn := z23.below hbn
  have hrn := z3.below hbn
  have hbm : Below w.heap.size w wm := hP.below (b3.trans (hbn.mono b3.size)) (Nat.le_refl _) (Nat.le_trans b3.size hbn.size)
  have hq4 : At w4 w.heap.size 0 ((n / d : Nat) : Int) := At.put hP.at_ (hrn.put hzn hP (by omega)) hP2 (by omega)
  have hr4 : At w4 gr 0 ((n % d : Nat) : Int) := hP2.at_
  have hb4 : Below w.heap.size w w4 := hP2.below hbm (by omega) hbm.size
  clear hP hP2 hzn hrn hbm hbn b2 z23 z3 d3
  obtain ⟨q, hq⟩ : ∃ q, n / d = q := ⟨_, rfl⟩
  obtain ⟨r, hr⟩ : ∃ r, n % d = r := ⟨_, rfl⟩
  rw [hq] at hq4 HUp hqb
  rw [hr] at hr4 HUp hr2 hrb
  clear hq hr
  have HQ4 := Lib.hid hq4
  have C6 := Lib.hid (lsh_n w4.heap.size 0 gr 0 1 r 0 _ (At.zero w4) (hr4.below (below_new w4 _)) (by omega) (by omega))
  clear hq4 hr4
  go_wp2_with fail
  refine C6.out.mono ?_
  rintro e w5 ⟨rfl, hP⟩
  obtain ⟨hb5, hl5⟩ := new_put hP
  have hb05 := hb4.trans (hb5.mono hb4.size)
  clear hP C6
  go_wp2_with fail
  refine (denom_z g k (n : Int) w5 (HH.out.below hb05) (by omega)).mono ?_
  rw [HDe.out]
  rintro e w6 ⟨rfl, hb6, hd6⟩
  have hl6 := hl5.below hb6
  have hb06 := hb05.trans (hb6.mono hb05.size)
  have hq6 := (HQ4.out.below hb5).below hb6
  have C7 := Lib.hid (cmp_z w4.heap.size 0 w5.heap.size 0 _ _ w6 hl6 hd6 (by omega) (by omega) (Nat.le_trans hr2 (by omega)) (Nat.le_trans hwd (by omega)))
  rw [show ((r * 2 ^ 1 : Nat) : Int).natAbs = r * 2 ^ 1 from rfl, show (d : Int).natAbs = d from rfl] at C7
  obtain ⟨cm, hcm⟩ : ∃ cm, cmpN (r * 2 ^ 1) d = cm := ⟨_, rfl⟩
  rw [hcm] at C7 HUp
  clear hcm hl6 hd6 hl5
  go_wp2_with fail
  refine C7.out.mono ?_
  rintro e w7 ⟨hb7, rfl⟩
  have HQ7 := Lib.hid (hq6.below hb7)
  have HB7 := Lib.hid (hb06.trans (hb7.mono hb06.size))
  clear C7 hb7 hb06 hq6 hb05 hb6 hb5 hb4 HQ4
  have C8 := Lib.hid (bit_z w.heap.size 0 (q : Int) w7 HQ7.out (by omega) (by show wc q ≤ 50000; omega))
  rw [show (q : Int).natAbs = q from rfl] at C8
  have hup : (Q = q + 1 ∧ (0 < cm ∨ (cm = 0 ∧ q % 2 = 1))) ∨ (Q = q ∧ (cm < 0 ∨ (cm = 0 ∧ q % 2 = 0))) := by
    rw [HUp.out]
    by_cases h : 0 < cm ∨ (cm = 0 ∧ q % 2 = 1)
    · left; rw [if_pos h]; exact ⟨rfl, h⟩
    · right; rw [if_neg h]; exact ⟨rfl, by omega⟩
  clear HUp
  rcases hup with ⟨hQ, hc⟩ | ⟨rfl, hc⟩
  · have HQe := Lib.hid hQ
    clear hQ
    have fin : Hid (∀ w8 w9, Below w7.heap.size w7 w8 → Puts w8 w9 w.heap.size 0 ((q : Int) + 1) → Below w.heap.size w w9 ∧ At w9 w.heap.size 0 (Q : Int)) := fun w8 w9 h8 h9 => by
      have hb08 := HB7.out.trans (h8.mono HB7.out.size)
      refine ⟨h9.below hb08 (Nat.le_refl _) hb08.size, ?_⟩
      rw [HQe.out]
      exact h9.at_
    rcases hc with hc | ⟨rfl, h2⟩
    · go_wp2_with fail
      refine (newint_z 1 w7 (by omega) (by omega)).mono ?_
      rintro e w8 ⟨hb8, rfl, h8⟩
      have hq8 := HQ7.out.below hb8
      go_wp2_with fail
      refine (add_z w.heap.size 0 w.heap.size 0 w7.heap.size 0 (q : Int) (q : Int) 1 w8 hq8 hq8 h8 (by omega) (by omega) (Nat.le_trans hqb (by omega)) (by decide)).mono ?_
      rintro e w9 ⟨rfl, hP⟩
      obtain ⟨f1, f2⟩ := fin.out w8 w9 hb8 hP
      go_wp2_with fail
      go_ret
      exact ⟨f1, _, rfl, f2⟩
    · rw [h2] at C8
      clear h2
      go_wp2_with fail
      refine C8.out.mono ?_
      rintro e wy ⟨rfl, rfl⟩
      go_wp2_with fail
      refine (newint_z 1 wy (by omega) (by omega)).mono ?_
      rintro e w8 ⟨hb8, rfl, h8⟩
      have hq8 := HQ7.out.below hb8
      go_wp2_with fail
      refine (add_z w.heap.size 0 w.heap.size 0 wy.heap.size 0 (q : Int) (q : Int) 1 w8 hq8 hq8 h8 (by omega) (by omega) (Nat.le_trans hqb (by omega)) (by decide)).mono ?_
      rintro e w9 ⟨rfl, hP⟩
      obtain ⟨f1, f2⟩ := fin.out w8 w9 hb8 hP
      go_wp2_with fail
      go_ret
      exact ⟨f1, _, rfl, f2⟩
  · rcases hc with hc | ⟨rfl, h2⟩
    · have hz : (cm == 0) = false := by simp; omega
      go_wp2_with fail
      go_ret
      exact ⟨HB7.out, _, rfl, HQ7.out⟩
    · rw [h2] at C8
      clear h2
      go_wp2_with fail
      refine C8.out.mono ?_
      rintro e wy ⟨rfl, rfl⟩
      go_wp2_with fail
      go_ret
      exact ⟨HB7.out, _, rfl, HQ7.out⟩
end Go.Proofs.YtjjfkidddjcdcaaDoor
