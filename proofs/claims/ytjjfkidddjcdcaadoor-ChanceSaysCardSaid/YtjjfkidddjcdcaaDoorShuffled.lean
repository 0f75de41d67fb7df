/- Proved here: the contract of the document's Shuffled at this program. Conditions: as each theorem says. -/
import Derived.Test.YtjjfkidddjcdcaaDoorChoose
import Derived.BigRegion
namespace Go.Proofs.YtjjfkidddjcdcaaDoor
open Go.ChangeShapes Go.WideShapes Go.ChangeAt Go.RowKit

/-- What Shuffled leaves and hands back. -/
def ShuffEnd (w : World) (s : Nat → Int) (a : Nat) (short : Bool) (N : Nat) (e : Ending) (w' : World) : Prop :=
  Below w.heap.size w w' ∧ (short = true → e = .returned (.tuple #[.slice none 0 0, .int .i64 0, .bool false])) ∧
    (short = false → ∃ D c, e = .returned (.tuple #[.slice (some ⟨D, 0, none⟩) N c, .int .i64 (a : Nat), .bool true]) ∧ D < w'.heap.size ∧ Cards w' D N s)

def ShuffRel (f : Nat → Int) (n : Nat) (res : (Nat → Int) × Nat × Bool) (w : World) (N D gk : Nat) (v5 v8 : Value) (wr : World) : Prop :=
  ∃ (i a : Nat) (s : Nat → Int), gk = i ∧ i < N ∧ a ≤ n ∧ v8 = .int .i64 (i : Nat) ∧ v5 = .int .i64 (a : Nat) ∧ Below w.heap.size w wr ∧ Cards wr D N s ∧ deckS f n i a s = res

/-- What a round's choice leaves. -/
def ShuffPick (f : Nat → Int) (res : (Nat → Int) × Nat × Bool) (s : Nat → Int) (wr : World) (n i : Nat) (e : Ending) (w' : World) : Prop :=
  Below wr.heap.size wr w' ∧ ((res.2.2 = true ∧ ∃ a : Nat, e = .returned (.tuple #[.int .i64 0, .int .i64 (a : Nat), .bool false])) ∨
    ∃ (k a : Nat), e = .returned (.tuple #[.int .i64 (k : Nat), .int .i64 (a : Nat), .bool true]) ∧ k < i + 2 ∧ a ≤ n ∧ deckS f n i a (swapF s (i + 1) k) = res)

theorem shuff_pick (f : Nat → Int) (res : (Nat → Int) × Nat × Bool) (s : Nat → Int) (wr : World) (A : Option Addr) (n c i a : Nat) (hi : i + 2 ≤ 1000000) (hn : n ≤ 2000) (hnc : n ≤ c) (hok : ∀ j, j < n → OkBit (f j)) (ha : a ≤ n)
    (hR : Row wr A n f) (hns : deckS f n (i + 1) a s = res) :
    Calls Tryd.prog 46 #[.int .i64 ((i + 2 : Nat) : Int), .slice A n c, .int .i64 (a : Nat)] wr (ShuffPick f res s wr n i) := by
  have h1 : (1 : Int) ≤ ((i + 2 : Nat) : Int) := by omega
  have hr := pickS_range f n (szOf (i + 2)) ((i + 2 : Nat) : Int) h1 hok (n + 1) a ha
  refine (choose_any (i + 2) n c a A f wr hn hnc (by omega) hi hok ha hR _ rfl).mono ?_
  rintro e w' ⟨hb, e0, e1⟩
  unfold deckS at hns
  generalize pickS f n (szOf (i + 2)) ((i + 2 : Nat) : Int) (n + 1) a = r at *
  obtain ⟨r1, r2, r3⟩ := r
  obtain ⟨q1, q2, q3, q4⟩ := hr
  cases r3
  · have h := e0 rfl
    have q2' : r1 < ((i + 2 : Nat) : Int) := q2
    have e1 : (r1.toNat : Int) = r1 := Int.toNat_of_nonneg q1
    exact ⟨hb, .inr ⟨r1.toNat, r2, by rw [e1]; exact h, by omega, q3, hns⟩⟩
  · have hres' : (s, n, true) = res := hns
    exact ⟨hb, .inl ⟨by rw [← hres'], e1 rfl⟩⟩

set_option maxRecDepth 100000 in
set_option maxHeartbeats 8000000 in
theorem shuff_mid (N n c : Nat) (A : Option Addr) (f : Nat → Int) (w : World) (hn : n ≤ 2000) (hnc : n ≤ c) (hR : Row w A n f) (hok : ∀ j, j < n → OkBit (f j)) (hN1 : 1 ≤ N) (hN2 : N ≤ 60)
    (s : Nat → Int) (a : Nat) (sh : Bool) (hres : Hid (deckS f n (N - 1) 0 (fun j => (j : Int)) = (s, a, sh))) :
    Calls Tryd.prog 47 #[.int .i64 (N : Nat), .slice A n c] w (ShuffEnd w s a sh N) := by
  have HR := Lib.hid hR
  have HO := Lib.hid hok
  obtain ⟨i0, hi, hz0, hz1, hz2⟩ : ∃ i, Tryd.prog.info? 3 = some i ∧ i.zero = some (.int .i64 0) ∧ i.size = 1 ∧ i.bytes = 8 := ⟨_, rfl, rfl, rfl, rfl⟩
  have HI := Lib.hid hi
  have HZ0 := Lib.hid hz0
  have HZ1 := Lib.hid hz1
  have HZ2 := Lib.hid hz2
  clear hR hok hi hz0 hz1 hz2
  go_enter Tryd.func47, Tryd.ntmps47
  go_wp2_with fail
  go_loopg [4, 7] N (fun gk v4 v7 wr => ∃ k : Nat, gk + k = N ∧ v7 = .int .i64 (k : Nat) ∧ wr.ownsRow w.heap.size 3 1 v4 k ((List.range k).map fun j : Nat => .int .i64 (j : Int)) ∧ Below w.heap.size w wr)
  case atStart => exact ⟨0, by omega, rfl, World.ownsRow_nil _ _ _ _, Below.refl _ _⟩
  case round =>
    obtain ⟨k, hk, rfl, hown, hbe⟩ := hrel
    have HBE := Lib.hid hbe
    have hsz := hbe.size
    clear hbe
    by_cases hlt : k < N
    · obtain ⟨gk, rfl⟩ : ∃ g', gk = g' + 1 := ⟨gk - 1, by omega⟩
      go_wp2_with (first
        | (at_builtin; refine wpList_append_own _ rfl _ _ 23 rfl w.heap.size 3 i0 (.int .i64 0) 1 8 Tryd.underlying23 HI.out HZ0.out HZ1.out HZ2.out rfl (by decide) _ _ _ rfl (hown.alloc _) ⟨wr.heap.size, 0, none⟩ 1 1 [.int .i64 (k : Int)] rfl rfl ?c1 ?c2 ?c3 ?c4 ?c5 ?_))
      case c1 =>
        intro j u hj
        match j, hj with
        | 0, hj => simp at hj; subst hj; simp [Addr.add]
      case c2 => intro u hu; simp at hu; subst hu; rfl
      case c3 => unfold maxLen; omega
      case c4 => omega
      case c5 => simp; omega
      intro v' w' hown' hgrow _
      have hbe' : Below w.heap.size w w' := (HBE.out.alloc hsz _).grown hgrow (by simp; omega) (fun q hq => (hown.lt q hq).1)
      have HB' := Lib.hid hbe'
      clear hgrow hown hbe'
      go_wp2_with fail
      go_roundg gk
      case measure => omega
      case rel => exact ⟨k + 1, by omega, by go_num, by rw [List.range_succ, List.map_append]; exact hown', HB'.out⟩
    · obtain rfl : k = N := by omega
      obtain ⟨D, cD, rfl, hD, hcD, hC⟩ := Cards.of_own hown (by omega)
      have HS : Hid (ShuffRel f n (s, a, sh) w k D (k - 1) (.int .i64 0) (.int .i64 ((k - 1 : Nat) : Int)) wr) := ⟨k - 1, 0, fun j => (j : Int), rfl, by omega, by omega, rfl, rfl, HBE.out, hC, hres.out⟩
      clear HBE hown hC hres
      go_wp2_with fail
      have hk1 : (k : Int) - 1 = ((k - 1 : Nat) : Int) := by omega
      rw [hk1]
      clear hk1
      go_loopg [4, 5, 8] (k - 1) (fun gk v4 v5 v8 wr => v4 = .slice (some ⟨D, 0, none⟩) k cD ∧ ShuffRel f n (s, a, sh) w k D gk v5 v8 wr)
      case atStart => exact ⟨rfl, HS.out⟩
      case round =>
        clear HS
        obtain ⟨rfl, i, a', σ, rfl, hi, ha, rfl, rfl, hbe, hC, hdk⟩ := hrel
        have HBE := Lib.hid hbe
        have HC := Lib.hid hC
        have HDK := Lib.hid hdk
        clear hbe hC hdk
        rcases gk with _ | i
        · have h1 : Hid ((σ, a', false) = (s, a, sh)) := HDK.out
          clear HDK
          go_wp2_with fail
          go_ret3
          have h2 := h1.out
          injection h2 with e1 e2
          injection e2 with e2 e3
          subst e1 e2 e3
          exact ⟨HBE.out, (fun h => by cases h), (fun _ => ⟨D, cD, rfl, HC.out.lt, HC.out⟩)⟩
        · have CP := Lib.hid (shuff_pick f (s, a, sh) σ wr A n c i a' (by omega) hn hnc HO.out ha (HR.out.below HBE.out) HDK.out)
          have hi2 : ((i + 2 : Nat) : Int) = (i : Int) + 2 := by omega
          rw [hi2] at CP
          clear hi2 HDK
          go_wp2_with fail
          refine CP.out.mono ?_
          rintro e w3 ⟨hb3, hcase⟩
          have HB3 := Lib.hid (HBE.out.trans (hb3.mono HBE.out.size))
          have HC3 := Lib.hid (HC.out.below hb3 HC.out.lt)
          clear hb3 HBE HC CP
          rcases hcase with ⟨hsh, a3, rfl⟩ | ⟨K, a3, rfl, hK, ha3, hd3⟩
          · have HSH := Lib.hid hsh
            clear hsh
            go_wp2_with fail
            go_ret3
            have e1 : sh = true := HSH.out
            exact ⟨HB3.out, (fun _ => rfl), (fun h => by rw [e1] at h; cases h)⟩
          · have HD3 := Lib.hid hd3
            clear hd3
            have di := HC3.out.cell (i + 1) hi
            have dk := HC3.out.cell K (by omega)
            have fi := HC3.out.frozen (i + 1)
            have fk := HC3.out.frozen K
            have FIN : ∀ q : Nat, ShuffRel f n (s, a, sh) w k D i (.int .i64 (a3 : Nat)) (.int .i64 (i : Nat)) ((((w3.setCell ⟨D, i + 1, none⟩ (.int .i64 (σ K))).setCell ⟨D, K, none⟩ (.int .i64 (σ (i + 1))))).drewN q) := fun q =>
              ⟨i, a3, swapF σ (i + 1) K, rfl, by omega, ha3, rfl, rfl, below_drewN ((HB3.out.setCell (p := ⟨D, i + 1, none⟩) hD _).setCell (p := ⟨D, K, none⟩) hD _) q, (HC3.out.swap (i + 1) K hi (by omega)).drewN q, HD3.out⟩
            have HFIN := Lib.hid FIN
            clear FIN
            by_cases hKi : K = i + 1
            · subst hKi
              generalize σ (i + 1) = si at *
              go_wp2_with fail
              go_region
              go_wp2_with fail
              go_roundg i
              case measure => omega
              case rel => exact ⟨rfl, HFIN.out 1⟩
            · generalize σ (i + 1) = si at *
              generalize σ K = sk at *
              go_wp2_with fail
              go_region
              go_wp2_with fail
              go_roundg i
              case measure => omega
              case rel => exact ⟨rfl, HFIN.out 1⟩

theorem shuff_nil (n c : Nat) (A : Option Addr) (w : World) :
    Calls Tryd.prog 47 #[.int .i64 0, .slice A n c] w fun e w' => e = .returned (.tuple #[.slice none 0 0, .int .i64 0, .bool true]) ∧ Below w.heap.size w w' := by
  go_enter Tryd.func47, Tryd.ntmps47
  go_wp2_with fail
  go_loopg [4, 7] 0 (fun gk v4 v7 wr => v7 = .int .i64 0 ∧ v4 = .slice none 0 0 ∧ wr = w)
  case atStart => exact ⟨rfl, rfl, rfl⟩
  case round =>
    obtain ⟨rfl, rfl, rfl⟩ := hrel
    go_wp2_with fail
    go_loopg [4, 5, 8] 0 (fun gk v4 v5 v8 wr2 => v4 = .slice none 0 0 ∧ v8 = .int .i64 (-1) ∧ v5 = .int .i64 0 ∧ wr2 = wr)
    case atStart => exact ⟨rfl, rfl, rfl, rfl⟩
    case round =>
      obtain ⟨rfl, rfl, rfl, rfl⟩ := hrel
      go_wp2_with fail
      go_ret3
      exact ⟨rfl, Below.refl _ _⟩
end Go.Proofs.YtjjfkidddjcdcaaDoor
