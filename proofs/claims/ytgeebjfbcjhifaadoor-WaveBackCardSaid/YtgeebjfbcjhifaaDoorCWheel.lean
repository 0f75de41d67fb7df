/- Proved here: the contract of package wave's wheel, of complex numbers with Transform's closures, at this program. Conditions: as the theorem says. -/
import Derived.Test.YtgeebjfbcjhifaaDoorCTurned
namespace Go.Proofs.YtgeebjfbcjhifaaDoor
open Go.ChangeShapes Go.WideShapes Go.ChangeAt Go.RowKit

def bflyC (r : Cx) (x y : Nat) (s : Nat → Cx) : Nat → Cx := updC (updC s x ((addB (s x) ((mulB (s y) r).getD (0, 0))).getD (0, 0))) y ((subB (s x) ((mulB (s y) r).getD (0, 0))).getD (0, 0))
def okB (r : Cx) (x y : Nat) (s : Nat → Cx) : Bool :=
  (mulB (s y) r).isSome && (addB (s x) ((mulB (s y) r).getD (0, 0))).isSome && (subB (s x) ((mulB (s y) r).getD (0, 0))).isSome
def kC (back : Bool) (size at_ : Nat) : Nat → (Nat → Cx) → (Nat → Cx)
  | 0, s => s
  | k + 1, s => bflyC (rootB back size k) (at_ + k) (at_ + k + size / 2) (kC back size at_ k s)
def atC (back : Bool) (size : Nat) : Nat → (Nat → Cx) → (Nat → Cx)
  | 0, s => s
  | i + 1, s => kC back size (i * size) (size / 2) (atC back size i s)
def szC (back : Bool) (n : Nat) : Nat → (Nat → Cx) → (Nat → Cx)
  | 0, s => s
  | m + 1, s => atC back (2 ^ (m + 1)) (n / 2 ^ (m + 1)) (szC back n m s)
def wheelC (back : Bool) (lg : Nat) (l : Nat → Cx) : Nat → Cx := szC back (2 ^ lg) lg (turnC lg l (2 ^ lg))
/-- No step is without an answer. -/
def okC (back : Bool) (lg n : Nat) (l : Nat → Cx) : Prop := ∀ m, m < lg → ∀ i, i < 2 ^ (lg - (m + 1)) → ∀ k, k < 2 ^ m →
  okB (rootB back (2 ^ (m + 1)) k) (i * 2 ^ (m + 1) + k) (i * 2 ^ (m + 1) + k + 2 ^ m) (kC back (2 ^ (m + 1)) (i * 2 ^ (m + 1)) k (atC back (2 ^ (m + 1)) i (szC back n m (turnC lg l n)))) = true
theorem okB_some {r : Cx} {x y : Nat} {s : Nat → Cx} (h : okB r x y s = true) : ∃ b u v, mulB (s y) r = some b ∧ addB (s x) b = some u ∧ subB (s x) b = some v ∧ bflyC r x y s = updC (updC s x u) y v := by
  unfold okB at h
  simp only [Bool.and_eq_true] at h
  obtain ⟨⟨h1, h2⟩, h3⟩ := h
  obtain ⟨b, hb⟩ := Option.isSome_iff_exists.1 h1
  rw [hb] at h2 h3
  obtain ⟨u, hu⟩ := Option.isSome_iff_exists.1 h2
  obtain ⟨v, hv⟩ := Option.isSome_iff_exists.1 h3
  refine ⟨b, u, v, hb, hu, hv, ?_⟩
  unfold bflyC
  rw [hb]
  simp only [Option.getD_some] at hu hv ⊢
  rw [hu, hv]
  rfl
def CWheelRel (w : World) (D n : Nat) (s : Nat → Cx) (wr : World) : Prop := Below w.heap.size w wr ∧ CNums wr D n s

set_option maxRecDepth 100000 in
set_option maxHeartbeats 8000000 in
theorem cwheel_any (lg n c T gt gb : Nat) (back : Bool) (v0 v1 v2 : Value) (A : Option Addr) (l : Nat → Cx) (w : World) (hl : lg ≤ 6) (hn : Hid (n = 2 ^ lg)) (hn1 : 1 ≤ n) (hn2 : n ≤ 64) (hR : CRow w A n l)
    (hok : okC back lg n l) (hgt : gt < w.heap.size) (hgb : gb < w.heap.size) (hct : w.cell? ⟨gt, 0, none⟩ = some (.pointer (some ⟨T, 0, none⟩))) (hcb : w.cell? ⟨gb, 0, none⟩ = some (.bool back)) (hrt : w.rowIs T 62 67 (tabS v0 v1 v2 64)) :
    Calls Tryd.prog 17 #[.slice A n c, .func (.func 18) #[] #[.pointer (some ⟨gt, 0, none⟩), .pointer (some ⟨gb, 0, none⟩)], .func (.func 19) #[] #[], .func (.func 20) #[] #[], .func (.func 21) #[] #[]] w
      fun e w' => e = .returned (.slice (some ⟨w.heap.size, 0, none⟩) n n) ∧ Below w.heap.size w w' ∧ CNums w' w.heap.size n (wheelC back lg l) := by
  have HOK := Lib.hid hok
  have HCT := Lib.hid hct
  have HCB := Lib.hid hcb
  have HRT := Lib.hid hrt
  have HT := Lib.hid (cturned_any lg n c A l w hl hn hn1 hn2 hR)
  clear hct hcb hR hok hrt
  go_enter Tryd.func17, Tryd.ntmps17
  go_wp2_with fail
  refine HT.out.mono ?_
  rintro e w1 ⟨rfl, hb1, hn1'⟩
  have H1 : Hid (CWheelRel w w.heap.size n (turnC lg l n) w1) := Lib.hid ⟨hb1, hn1'⟩
  clear HT hb1 hn1'
  go_wp2_with fail
  go_loopg [12] lg (fun gk v12 wr => ∃ m : Nat, gk + m = lg ∧ v12 = .int .i64 ((2 ^ (m + 1) : Nat) : Int) ∧ CWheelRel w w.heap.size n (szC back n m (turnC lg l n)) wr)
  case atStart => exact ⟨0, by omega, rfl, H1.out⟩
  case round =>
    clear H1
    obtain ⟨m, hm, rfl, hrl⟩ := hrel
    have H2 := Lib.hid hrl
    clear hrl
    rcases gk with _ | g
    · obtain rfl : m = lg := by omega
      have hpow : Hid (n < 2 ^ (m + 1)) := Lib.hid (by rw [hn.out, Nat.pow_succ]; have := Nat.pow_pos (n := m) (show 0 < 2 by decide); omega)
      have hfin : Hid (szC back n m (turnC m l n) = wheelC back m l) := Lib.hid (by unfold wheelC; rw [hn.out])
      generalize 2 ^ (m + 1) = sz at *
      have hlt := hpow.out
      go_wp2_with fail
      go_ret
      exact ⟨rfl, H2.out.1, by rw [← hfin.out]; exact H2.out.2⟩
    · have hsz : 2 ^ (m + 1) = 2 * 2 ^ m := by rw [Nat.pow_succ]; omega
      have hnn : n = 2 ^ g * 2 ^ (m + 1) := by rw [hn.out, ← Nat.pow_add, show g + (m + 1) = lg by omega]
      have hh1 : 1 ≤ 2 ^ m := Nat.pow_pos (by decide)
      have hg1 : 1 ≤ 2 ^ g := Nat.pow_pos (by decide)
      have hnb : n / 2 ^ (m + 1) = 2 ^ g := by rw [hnn, Nat.mul_div_cancel _ (by omega)]
      have HNX : Hid (atC back (2 ^ (m + 1)) (2 ^ g) (szC back n m (turnC lg l n)) = szC back n (m + 1) (turnC lg l n)) := Lib.hid (by rw [← hnb]; rfl)
      have HPX : Hid (((2 ^ (m + 1 + 1) : Nat) : Int) = ((2 ^ (m + 1) : Nat) : Int) * 2) := Lib.hid (by rw [Nat.pow_succ 2 (m + 1)]; omega)
      have hle : 2 ^ (m + 1) ≤ n := by rw [hnn]; exact Nat.le_mul_of_pos_left _ hg1
      have HNN := Lib.hid hnn
      have HSZ := Lib.hid hsz
      clear hnb hnn
      have hokm := HOK.out m (by omega)
      rw [show lg - (m + 1) = g by omega] at hokm
      have HOKM := Lib.hid hokm
      clear hokm HOK
      generalize szC back n m (turnC lg l n) = s1 at *
      generalize 2 ^ (m + 1) = sz at *
      generalize 2 ^ m = h at *
      generalize 2 ^ g = nb at *
      have hh2 : (sz : Int) / 2 = (h : Int) := by omega
      clear hsz
      have hsl : 2 ≤ sz := by have := HSZ.out; omega
      go_wp2_with fail
      obtain ⟨wo, hwo⟩ : ∃ wo, wo = wr := ⟨_, rfl⟩
      subst hwo
      go_loopg [13] nb (fun gk v13 wr => ∃ i at0 : Nat, gk + i = nb ∧ at0 = i * sz ∧ v13 = .int .i64 (at0 : Nat) ∧ CWheelRel w w.heap.size n (atC back sz i s1) wr)
      case atStart => exact ⟨0, 0, by omega, by omega, rfl, H2.out⟩
      case round =>
        clear H2
        obtain ⟨i, at0, hi, hat, rfl, hrl⟩ := hrel
        have H3 := Lib.hid hrl
        have HAT := Lib.hid hat
        clear hrl hat
        rcases gk with _ | gi
        · obtain rfl : i = nb := by omega
          have hge : n ≤ at0 := by rw [HAT.out]; exact Nat.le_of_eq HNN.out
          go_wp2_with fail
          go_roundg g
          case measure => omega
          case rel => exact ⟨m + 1, by omega, by rw [HPX.out], by rw [← HNX.out]; exact H3.out⟩
        · have hlt : at0 + sz ≤ n := by
            rw [HAT.out, HNN.out, show i * sz + sz = (i + 1) * sz by rw [Nat.add_mul, Nat.one_mul]]
            exact Nat.mul_le_mul_right _ (by omega)
          have HNK : Hid (kC back sz at0 h (atC back sz i s1) = atC back sz (i + 1) s1) := Lib.hid (by rw [HAT.out, show h = sz / 2 by omega]; rfl)
          have HA2 : Hid (at0 + sz = (i + 1) * sz) := Lib.hid (by rw [HAT.out, Nat.add_mul, Nat.one_mul])
          have hoki := HOKM.out i (by omega)
          rw [← HAT.out] at hoki
          have HOKI := Lib.hid hoki
          clear hoki
          generalize atC back sz i s1 = s2 at *
          have hdec : decide (at0 < n) = true := decide_eq_true (by omega)
          go_wp2_with fail
          clear hdec
          obtain ⟨wo, hwo⟩ : ∃ wo, wo = wr := ⟨_, rfl⟩
          subst hwo
          go_loopg [34] h (fun gk v34 wr => ∃ k : Nat, gk + k = h ∧ v34 = .int .i64 (k : Nat) ∧ CWheelRel w w.heap.size n (kC back sz at0 k s2) wr)
          case atStart => exact ⟨0, by omega, rfl, H3.out⟩
          case round =>
            clear H3
            obtain ⟨k, hk, rfl, hrl⟩ := hrel
            have H4 := Lib.hid hrl
            clear hrl
            rcases gk with _ | gk
            · obtain rfl : k = h := by omega
              go_wp2_with fail
              go_roundg gi
              case measure => omega
              case rel => exact ⟨i + 1, at0 + sz, by omega, HA2.out, by go_num, by rw [← HNK.out]; exact H4.out⟩
            · have hx : at0 + k < n := by omega
              have hy : at0 + k + h < n := by omega
              have hks : k < sz := by omega
              have HST : Hid (kC back sz at0 (k + 1) s2 = bflyC (rootB back sz k) (at0 + k) (at0 + k + h) (kC back sz at0 k s2)) := Lib.hid (by rw [show h = sz / 2 by omega]; rfl)
              have hsz64 : sz ≤ 64 := by omega
              have hko := HOKI.out k (by omega)
              have hm64 : 64 / sz * k < 64 := by
                have h1 : 64 / sz * sz ≤ 64 := Nat.div_mul_le_self _ _
                have h2 : 0 < 64 / sz := Nat.div_pos hsz64 (by omega)
                have h3 : 64 / sz * k < 64 / sz * sz := Nat.mul_lt_mul_of_pos_left hks h2
                omega
              have hTw := World.rowIs.lt HRT.out
              have HRC := Lib.hid (fun q => rootb_any sz k T gt gb back v0 v1 v2 (wr.drewN q) (by omega) hsz64 hm64 ((H4.out.1.cell (p := ⟨gt, 0, none⟩) hgt).trans HCT.out) ((H4.out.1.cell (p := ⟨gb, 0, none⟩) hgb).trans HCB.out) (World.rowIs.of_block HRT.out (H4.out.1.block T hTw)))
              obtain ⟨r, hr⟩ : ∃ r, rootB back sz k = r := ⟨_, rfl⟩
              rw [hr] at HST hko HRC
              generalize kC back sz at0 k s2 = s at *
              obtain ⟨bb, u', v', m1, m2, m3, m4⟩ := okB_some hko
              rw [m4] at HST
              have cx := H4.out.2.cell (at0 + k) hx
              have cy := H4.out.2.cell (at0 + k + h) hy
              have fx := H4.out.2.frozen (at0 + k)
              have fy := H4.out.2.frozen (at0 + k + h)
              have FIN := Lib.hid (fun q : Nat => show CWheelRel w w.heap.size n (kC back sz at0 (k + 1) s2) (((wr.setCell ⟨w.heap.size, at0 + k, none⟩ (.complex .f64 u'.1 u'.2)).setCell ⟨w.heap.size, at0 + k + h, none⟩ (.complex .f64 v'.1 v'.2)).drewN q) by
                rw [HST.out]
                exact ⟨below_drewN ((H4.out.1.setCell (Nat.le_refl _) _).setCell (Nat.le_refl _) _) q, ((H4.out.2.set _ _).set _ _).drewN q⟩)
              have hD := H4.out.2.lt
              generalize s (at0 + k) = u at *
              generalize s (at0 + k + h) = v at *
              obtain ⟨u1, u2⟩ := u
              obtain ⟨v1', v2'⟩ := v
              obtain ⟨b1, b2⟩ := bb
              obtain ⟨r1, r2⟩ := r
              obtain ⟨x1, x2⟩ := u'
              obtain ⟨y1, y2⟩ := v'
              have HMC := Lib.hid (fun w => mulb_any _ _ _ _ _ _ w m1)
              have HAC := Lib.hid (fun w => addb_any _ _ _ _ _ _ w m2)
              have HSC := Lib.hid (fun w => subb_any _ _ _ _ _ _ w m3)
              have hst := store_complex
              clear m1 m2 m3 m4 hko hm64 hTw
              have w1 : IntKind.i64.wrap ((at0 : Int) + (k : Int)) = (at0 : Int) + (k : Int) := IntWalk.i64_in _ (by omega)
              have w2 : IntKind.i64.wrap ((at0 : Int) + (k : Int) + (h : Int)) = (at0 : Int) + (k : Int) + (h : Int) := IntWalk.i64_in _ (by omega)
              have t1 : ((at0 : Int) + (k : Int)).toNat = at0 + k := by omega
              have t2 : ((at0 : Int) + (k : Int) + (h : Int)).toNat = at0 + k + h := by omega
              have n1 : 0 ≤ (at0 : Int) + (k : Int) := by omega
              have n2 : 0 ≤ (at0 : Int) + (k : Int) + (h : Int) := by omega
              have n3 : (at0 : Int) + (k : Int) < (n : Int) := by omega
              have n4 : (at0 : Int) + (k : Int) + (h : Int) < (n : Int) := by omega
              have hne : at0 + k ≠ at0 + k + h := by omega
              clear HCT HCB HRT H4 HST hr HOKI HOKM
              go_wp2_with fail
              go_quiet ((first | (go_at_call 18; exact Calls.quiet_of (HRC.out _)) | (go_at_call 19; exact Calls.quiet_of_same (HMC.out _))))
              go_wp2_with (first | (go_at_call 20; refine (HAC.out _).mono ?_; rintro e w' ⟨rfl, rfl⟩) | (go_at_call 21; refine (HSC.out _).mono ?_; rintro e w' ⟨rfl, rfl⟩))
              go_roundg gk
              case measure => omega
              case rel => exact ⟨k + 1, by omega, by go_num, FIN.out _⟩
end Go.Proofs.YtgeebjfbcjhifaaDoor
