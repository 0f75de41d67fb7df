/- Proved here: the contract of package wave's wheel, of integers with modulo's closures, at this program. Conditions: as the theorem says. -/
import Derived.Test.YtgeebjfbcjhifaaDoorTurned
namespace Go.Proofs.YtgeebjfbcjhifaaDoor
open Go.ChangeShapes Go.WideShapes Go.ChangeAt Go.RowKit

theorem below_drewN {B : Nat} {a w : World} (h : Below B a w) (n : Nat) : Below B a (w.drewN n) := ⟨h.os, h.tape, h.output, h.size, h.block⟩
def WheelRel (w : World) (D n p : Nat) (s : Nat → Nat) (wr : World) : Prop := Below w.heap.size w wr ∧ Nums wr D n s ∧ Low p s

set_option maxRecDepth 100000 in
set_option maxHeartbeats 8000000 in
theorem wheel_any (lg n c p gp gb : Nat) (back : Bool) (A : Option Addr) (l : Nat → Nat) (w : World) (hl : lg ≤ 6) (hn : Hid (n = 2 ^ lg)) (hn1 : 1 ≤ n) (hn2 : n ≤ 64) (hR : Row w A n (fun j => (l j : Int)))
    (hp : 3 < p) (hp2 : p < 2147483648) (hlow : Low p l) (hgp : gp < w.heap.size) (hgb : gb < w.heap.size) (hcp : w.cell? ⟨gp, 0, none⟩ = some (.int .i64 (p : Nat))) (hcb : w.cell? ⟨gb, 0, none⟩ = some (.bool back)) :
    Calls Tryd.prog 26 #[.slice A n c, .func (.func 27) #[] #[.pointer (some ⟨gb, 0, none⟩), .pointer (some ⟨gp, 0, none⟩)], .func (.func 29) #[] #[.pointer (some ⟨gp, 0, none⟩)], .func (.func 30) #[] #[.pointer (some ⟨gp, 0, none⟩)], .func (.func 31) #[] #[.pointer (some ⟨gp, 0, none⟩)]] w
      fun e w' => e = .returned (.slice (some ⟨w.heap.size, 0, none⟩) n n) ∧ Below w.heap.size w w' ∧ Nums w' w.heap.size n (wheelS p back lg l) := by
  have HCP := Lib.hid hcp
  have HCB := Lib.hid hcb
  have HT := Lib.hid (turned_any lg n c A l w hl hn hn1 hn2 hR)
  have HL0 := Lib.hid (Low.turnS (by omega) lg hlow n)
  clear hcp hcb hR hlow
  go_enter Tryd.func26, Tryd.ntmps26
  go_wp2_with fail
  refine HT.out.mono ?_
  rintro e w1 ⟨rfl, hb1, hn1'⟩
  have H1 : Hid (WheelRel w w.heap.size n p (turnS lg l n) w1) := Lib.hid ⟨hb1, hn1', HL0.out⟩
  clear HT HL0 hb1 hn1'
  go_wp2_with fail
  go_loopg [12] lg (fun gk v12 wr => ∃ m : Nat, gk + m = lg ∧ v12 = .int .i64 ((2 ^ (m + 1) : Nat) : Int) ∧ WheelRel w w.heap.size n p (szL p back n m (turnS lg l n)) wr)
  case atStart => exact ⟨0, by omega, rfl, H1.out⟩
  case round =>
    clear H1
    obtain ⟨m, hm, rfl, hrl⟩ := hrel
    have H2 := Lib.hid hrl
    clear hrl
    rcases gk with _ | g
    · obtain rfl : m = lg := by omega
      have hpow : Hid (n < 2 ^ (m + 1)) := Lib.hid (by rw [hn.out, Nat.pow_succ]; have := Nat.pow_pos (n := m) (show 0 < 2 by decide); omega)
      have hfin : Hid (szL p back n m (turnS m l n) = wheelS p back m l) := Lib.hid (by unfold wheelS; rw [hn.out])
      generalize 2 ^ (m + 1) = sz at *
      have hlt := hpow.out
      go_wp2_with fail
      go_ret
      exact ⟨rfl, H2.out.1, by rw [← hfin.out]; exact H2.out.2.1⟩
    · have hsz : 2 ^ (m + 1) = 2 * 2 ^ m := by rw [Nat.pow_succ]; omega
      have hnn : n = 2 ^ g * 2 ^ (m + 1) := by rw [hn.out, ← Nat.pow_add, show g + (m + 1) = lg by omega]
      have hh1 : 1 ≤ 2 ^ m := Nat.pow_pos (by decide)
      have hg1 : 1 ≤ 2 ^ g := Nat.pow_pos (by decide)
      have hnb : n / 2 ^ (m + 1) = 2 ^ g := by rw [hnn, Nat.mul_div_cancel _ (by omega)]
      have HNX : Hid (atL p back (2 ^ (m + 1)) (2 ^ g) (szL p back n m (turnS lg l n)) = szL p back n (m + 1) (turnS lg l n)) := Lib.hid (by rw [← hnb]; rfl)
      have HPX : Hid (((2 ^ (m + 1 + 1) : Nat) : Int) = ((2 ^ (m + 1) : Nat) : Int) * 2) := Lib.hid (by rw [Nat.pow_succ 2 (m + 1)]; omega)
      have hle : 2 ^ (m + 1) ≤ n := by rw [hnn]; exact Nat.le_mul_of_pos_left _ hg1
      have HNN := Lib.hid hnn
      have HSZ := Lib.hid hsz
      clear hnb hnn
      generalize szL p back n m (turnS lg l n) = s1 at *
      generalize 2 ^ (m + 1) = sz at *
      generalize 2 ^ m = h at *
      generalize 2 ^ g = nb at *
      have hh2 : (sz : Int) / 2 = (h : Int) := by omega
      clear hsz
      have hsl : 2 ≤ sz := by have := HSZ.out; omega
      go_wp2_with fail
      obtain ⟨wo, hwo⟩ : ∃ wo, wo = wr := ⟨_, rfl⟩
      subst hwo
      go_loopg [13] nb (fun gk v13 wr => ∃ i at0 : Nat, gk + i = nb ∧ at0 = i * sz ∧ v13 = .int .i64 (at0 : Nat) ∧ WheelRel w w.heap.size n p (atL p back sz i s1) wr)
      case atStart => exact ⟨0, 0, by omega, by omega, rfl, H2.out⟩
      case round =>
        clear H2
        obtain ⟨i, at0, hi, hat, rfl, hrl⟩ := hrel
        have H3 := Lib.hid hrl
        have HAT := Lib.hid hat
        clear hrl hat
        rcases gk with _ | gi
        · obtain rfl : i = nb := by omega
          have hge : n ≤ at0 := by rw [HAT.out]; exact Nat.le_of_eq HNN.out
          go_wp2_with fail
          go_roundg g
          case measure => omega
          case rel => exact ⟨m + 1, by omega, by rw [HPX.out], by rw [← HNX.out]; exact H3.out⟩
        · have hlt : at0 + sz ≤ n := by
            rw [HAT.out, HNN.out, show i * sz + sz = (i + 1) * sz by rw [Nat.add_mul, Nat.one_mul]]
            exact Nat.mul_le_mul_right _ (by omega)
          have HNK : Hid (kL p back sz at0 h (atL p back sz i s1) = atL p back sz (i + 1) s1) := Lib.hid (by rw [HAT.out, show h = sz / 2 by omega]; rfl)
          have HA2 : Hid (at0 + sz = (i + 1) * sz) := Lib.hid (by rw [HAT.out, Nat.add_mul, Nat.one_mul])
          generalize atL p back sz i s1 = s2 at *
          have hdec : decide (at0 < n) = true := decide_eq_true (by omega)
          go_wp2_with fail
          clear hdec
          obtain ⟨wo, hwo⟩ : ∃ wo, wo = wr := ⟨_, rfl⟩
          subst hwo
          go_loopg [34] h (fun gk v34 wr => ∃ k : Nat, gk + k = h ∧ v34 = .int .i64 (k : Nat) ∧ WheelRel w w.heap.size n p (kL p back sz at0 k s2) wr)
          case atStart => exact ⟨0, by omega, rfl, H3.out⟩
          case round =>
            clear H3
            obtain ⟨k, hk, rfl, hrl⟩ := hrel
            have H4 := Lib.hid hrl
            clear hrl
            rcases gk with _ | gk
            · obtain rfl : k = h := by omega
              go_wp2_with fail
              go_roundg gi
              case measure => omega
              case rel => exact ⟨i + 1, at0 + sz, by omega, HA2.out, by go_num, by rw [← HNK.out]; exact H4.out⟩
            · have hx : at0 + k < n := by omega
              have hy : at0 + k + h < n := by omega
              have hks : k < sz := by omega
              have HST : Hid (kL p back sz at0 (k + 1) s2 = bfly p (root p back sz k) (at0 + k) (at0 + k + h) (kL p back sz at0 k s2)) := Lib.hid (by rw [show h = sz / 2 by omega]; rfl)
              have hsz64 : sz ≤ 64 := by omega
              have hrt := root_lt p (by omega) back sz k
              obtain ⟨r, hr⟩ : ∃ r, root p back sz k = r := ⟨_, rfl⟩
              have HRC := Lib.hid (fun q => rootc_any sz k p gp gb back (wr.drewN q) hp hp2 (by omega) hks hsz64 ((H4.out.1.cell (p := ⟨gp, 0, none⟩) hgp).trans HCP.out) ((H4.out.1.cell (p := ⟨gb, 0, none⟩) hgb).trans HCB.out) r (Lib.hid hr))
              rw [hr] at HST hrt
              generalize kL p back sz at0 k s2 = s at *
              have cx := H4.out.2.1.cell (at0 + k) hx
              have cy := H4.out.2.1.cell (at0 + k + h) hy
              have fx := H4.out.2.1.frozen (at0 + k)
              have fy := H4.out.2.1.frozen (at0 + k + h)
              have lx := H4.out.2.2 (at0 + k)
              have ly := H4.out.2.2 (at0 + k + h)
              have lb : s (at0 + k + h) * r % p < p := Nat.mod_lt _ (by omega)
              have HMC := Lib.hid (fun q => mulc_any (s (at0 + k + h)) r p gp (wr.drewN q) (by omega) hp2 ly hrt ((H4.out.1.cell (p := ⟨gp, 0, none⟩) hgp).trans HCP.out))
              have HAC := Lib.hid (fun q => addc_any (s (at0 + k)) (s (at0 + k + h) * r % p) p gp (wr.drewN q) (by omega) hp2 lx lb ((H4.out.1.cell (p := ⟨gp, 0, none⟩) hgp).trans HCP.out))
              have HSC := Lib.hid (fun q => subc_any (s (at0 + k)) (s (at0 + k + h) * r % p) p gp (wr.drewN q) (by omega) hp2 lx lb ((H4.out.1.cell (p := ⟨gp, 0, none⟩) hgp).trans HCP.out))
              have hD := H4.out.2.1.lt
              have FIN := Lib.hid (fun q : Nat => show WheelRel w w.heap.size n p (kL p back sz at0 (k + 1) s2) (((wr.setCell ⟨w.heap.size, at0 + k, none⟩ (.int .i64 (((s (at0 + k) + s (at0 + k + h) * r % p) % p : Nat) : Int))).setCell ⟨w.heap.size, at0 + k + h, none⟩ (.int .i64 (((s (at0 + k) + p - s (at0 + k + h) * r % p) % p : Nat) : Int))).drewN q) by
                rw [HST.out]
                exact ⟨below_drewN ((H4.out.1.setCell (Nat.le_refl _) _).setCell (Nat.le_refl _) _) q, ((H4.out.2.1.set _ _).set _ _).drewN q, H4.out.2.2.bfly (by omega) _ _ _⟩)
              have w1 : IntKind.i64.wrap ((at0 : Int) + (k : Int)) = (at0 : Int) + (k : Int) := IntWalk.i64_in _ (by omega)
              have w2 : IntKind.i64.wrap ((at0 : Int) + (k : Int) + (h : Int)) = (at0 : Int) + (k : Int) + (h : Int) := IntWalk.i64_in _ (by omega)
              have t1 : ((at0 : Int) + (k : Int)).toNat = at0 + k := by omega
              have t2 : ((at0 : Int) + (k : Int) + (h : Int)).toNat = at0 + k + h := by omega
              have n1 : 0 ≤ (at0 : Int) + (k : Int) := by omega
              have n2 : 0 ≤ (at0 : Int) + (k : Int) + (h : Int) := by omega
              have n3 : (at0 : Int) + (k : Int) < (n : Int) := by omega
              have n4 : (at0 : Int) + (k : Int) + (h : Int) < (n : Int) := by omega
              have hne : at0 + k ≠ at0 + k + h := by omega
              generalize s (at0 + k) = u at *
              generalize s (at0 + k + h) = v at *
              generalize v * r % p = bb at *
              generalize (u + bb) % p = va at *
              generalize (u + p - bb) % p = vb at *
              clear HCP HCB H4 HST hr
              go_wp2_with fail
              go_quiet ((first | (go_at_call 27; exact Calls.quiet_of (HRC.out _)) | (go_at_call 29; exact Calls.quiet_of_same (HMC.out _))))
              go_wp2_with (first | (go_at_call 30; refine (HAC.out _).mono ?_; rintro e w' ⟨rfl, rfl⟩) | (go_at_call 31; refine (HSC.out _).mono ?_; rintro e w' ⟨rfl, rfl⟩))
              go_roundg gk
              case measure => omega
              case rel => exact ⟨k + 1, by omega, by go_num, FIN.out _⟩
end Go.Proofs.YtgeebjfbcjhifaaDoor
