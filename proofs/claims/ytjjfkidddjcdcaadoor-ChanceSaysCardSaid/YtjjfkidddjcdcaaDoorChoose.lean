/- Proved here: the contract of the document's Choose at this program. Conditions: as the theorem says. -/
import Derived.Test.YtjjfkidddjcdcaaDoorDeckPlain
import Derived.Test.YtjjfkidddjcdcaaDoorNear1
namespace Go.Proofs.YtjjfkidddjcdcaaDoor
open Go.ChangeShapes Go.WideShapes Go.ChangeAt Go.RowKit

/-- What Choose hands back; short: only that. -/
def ChooseEnd (res : Int × Nat × Bool) (w : World) (e : Ending) (w' : World) : Prop :=
  Below w.heap.size w w' ∧ (res.2.2 = false → e = .returned (.tuple #[.int .i64 res.1, .int .i64 (res.2.1 : Nat), .bool true])) ∧ (res.2.2 = true → ∃ a : Nat, e = .returned (.tuple #[.int .i64 0, .int .i64 (a : Nat), .bool false]))

theorem size_any (N : Nat) (w : World) (hN1 : 1 ≤ N) (hN2 : N ≤ 1000000) :
    Calls Tryd.prog 89 #[.pointer (some ⟨w.heap.size, 0, none⟩), .int .i64 ((N : Int) - 1)] (w.alloc (Obj.cells #[.bool false, .slice none 0 0] 101)) fun e w' => e = .returned (.pointer (some ⟨w.heap.size, 0, none⟩)) ∧ Below w.heap.size w w' ∧ At w' w.heap.size 0 ((N - 1 : Nat) : Int) := by
  have e1 : (N : Int) - 1 = ((N - 1 : Nat) : Int) := by omega
  rw [e1]
  refine (setint_any w.heap.size 0 0 false ((N - 1 : Nat) : Int) _ (At.zero w) (by omega) (by omega)).mono ?_
  rintro e w' ⟨rfl, hP⟩
  rw [neg_pos] at hP
  exact ⟨rfl, new_put hP⟩

set_option maxRecDepth 100000 in
set_option maxHeartbeats 4000000 in
theorem choose_any (N n c a : Nat) (A : Option Addr) (f : Nat → Int) (w : World) (hn : n ≤ 2000) (hnc : n ≤ c) (hN1 : 1 ≤ N) (hN2 : N ≤ 1000000) (hok : ∀ j, j < n → OkBit (f j)) (ha : a ≤ n) (hR : Row w A n f)
    (res : Int × Nat × Bool) (hres : Hid (pickS f n (szOf N) (N : Int) (n + 1) a = res)) :
    Calls Tryd.prog 46 #[.int .i64 (N : Nat), .slice A n c, .int .i64 (a : Nat)] w (ChooseEnd res w) := by
  have HR := Lib.hid hR
  have HO := Lib.hid hok
  have hS20 := szOf_le N hN2
  have CS := Lib.hid (size_any N w hN1 hN2)
  have HSE : Hid (bl (N - 1) = szOf N) := rfl
  generalize szOf N = S at *
  clear hR hok
  go_enter Tryd.func46, Tryd.ntmps46
  go_wp2_with fail
  refine CS.out.mono ?_
  rintro e w2 ⟨rfl, hb2, hx2⟩
  have CB := Lib.hid (bitlen_z w.heap.size 0 _ w2 hx2 (by rw [Int.natAbs_natCast]; exact Nat.le_trans (wc_of_lt (n := 20) (show N - 1 < 2 ^ 20 by omega)) (by omega)))
  rw [Int.natAbs_natCast, HSE.out] at CB
  have HB2 := Lib.hid hb2
  have HR2 := Lib.hid (HR.out.below hb2)
  clear hb2 hx2 CS HR
  go_wp2_with fail
  refine CB.out.mono ?_
  rintro e w3 ⟨rfl, rfl⟩
  clear CB
  go_wp2_with fail
  go_loopg [2, 6, 11] (n + 1) (fun gk v2 v6 v11 wr => ∃ a' : Nat, a' ≤ n ∧ n < a' + gk ∧ v2 = .int .i64 (a' : Nat) ∧ pickS f n S (N : Int) gk a' = res ∧ wr = w3)
  case atStart => exact ⟨a, ha, by omega, rfl, hres.out, rfl⟩
  case round =>
    clear hres
    obtain ⟨a', ha', hg, rfl, hres, rfl⟩ := hrel
    obtain ⟨g, rfl⟩ : ∃ g', gk = g' + 1 := ⟨gk - 1, by omega⟩
    unfold pickS at hres
    have HRES := Lib.hid hres
    clear hres
    by_cases hs : n < a' + S
    · have hsh : Hid (res.2.2 = true) := by
        have h := HRES.out
        show res.2.2 = true
        rw [← h, if_pos hs]
        split
        · exact decide_eq_true hs
        · rfl
      clear HRES
      go_wp2_with fail
      go_ret3
      exact ⟨HB2.out, (fun h => by rw [hsh.out] at h; cases h), (fun _ => ⟨_, rfl⟩)⟩
    · by_cases hS0 : S = 0
      · have hval : Hid (res = (0, a', false)) := by
          have h := HRES.out
          show _ = _
          rw [← h, hS0, show val f n a' 0 = 0 from rfl, if_pos (by omega), Nat.add_zero, Nat.min_eq_left ha', decide_eq_false (by omega)]
        clear HRES HSE
        subst hS0
        have hac : c = a' ∨ a' < c := by omega
        rcases hac with hac | hac
        all_goals
          go_wp2_with fail
          go_loopg [6, 31] 0 (fun gk v6 v31 wr2 => v6 = .int .i64 0 ∧ v31 = .int .i64 0 ∧ wr2 = wr)
          case atStart => exact ⟨rfl, rfl, rfl⟩
          case round =>
            obtain ⟨rfl, rfl, rfl⟩ := hrel
            go_wp2_with fail
            go_ret3
            rw [hval.out]
            exact ⟨HB2.out, (fun _ => rfl), (fun h => by cases h)⟩
      · obtain ⟨b, off, rfl, hb, hc⟩ := HR2.out (by omega)
        have HC := Lib.hid hc
        have hac : a' < c := by omega
        have hsl : a' + S - a' = S := by omega
        have hca : ¬ c = a' := by omega
        clear hc
        go_wp2_with fail
        go_loopg [6, 11, 31] S (fun gk v6 v11 v31 wr2 => ∃ j : Nat, gk + j = S ∧ v6 = .int .i64 (val f n a' j) ∧ v31 = .int .i64 (j : Nat) ∧ wr2 = wr)
        case atStart => exact ⟨0, by omega, rfl, rfl, rfl⟩
        case round =>
          obtain ⟨j, hj, rfl, rfl, rfl⟩ := hrel
          have hvb := val_bound f n a' HO.out j
          by_cases hlt : j < S
          · obtain ⟨gj, rfl⟩ : ∃ g', gk = g' + 1 := ⟨gk - 1, by omega⟩
            have cx := HC.out (a' + j) (by omega)
            have hob := HO.out (a' + j) (by omega)
            have hv2 : val f n a' (j + 1) = 2 * val f n a' j + f (a' + j) := by
              show 2 * val f n a' j + bitAt f n (a' + j) = _
              unfold bitAt
              rw [if_pos (by omega)]
            rw [← Nat.add_assoc] at cx
            have hp : (2 : Int) ^ j ≤ 1048576 := by
              have := PL.pow_bound j 20 (by omega)
              rw [pow_cast]
              omega
            have hv0 := hvb.1
            have hv1 : val f n a' j < 1048576 := by omega
            have HV2 := Lib.hid hv2
            clear hv2 hp hvb
            generalize val f n a' j = V at *
            generalize f (a' + j) = x at *
            have hx0 : 0 ≤ x ∧ x ≤ 1 := by rcases hob with rfl | rfl <;> omega
            clear hob
            go_wp2_with fail
            go_roundg gj
            case measure => omega
            case rel => exact ⟨j + 1, by omega, by rw [HV2.out], by go_num, rfl⟩
          · obtain rfl : j = S := by omega
            have hjpos : 1 ≤ j := by omega
            by_cases hv : val f n a' j < (N : Int)
            · have HR3 : Hid (res = (val f n a' j, a' + j, false)) := by
                have h := HRES.out
                show _ = _
                rw [← h, if_pos hv, Nat.min_eq_left (by omega), decide_eq_false hs]
              clear HRES hsl hlt
              generalize val f n a' j = V at *
              go_wp2_with fail
              go_ret3
              rw [HR3.out]
              exact ⟨HB2.out, (fun _ => rfl), (fun h => by cases h)⟩
            · have HR3 : Hid (pickS f n j (N : Int) g (a' + j) = res) := by
                have h := HRES.out
                rw [if_neg hv, if_neg hs] at h
                exact h
              clear HRES hsl hlt
              generalize val f n a' j = V at *
              go_wp2_with fail
              go_roundg g
              case measure => omega
              case rel => exact ⟨a' + j, by omega, by omega, by go_num, HR3.out, rfl⟩
end Go.Proofs.YtjjfkidddjcdcaaDoor
