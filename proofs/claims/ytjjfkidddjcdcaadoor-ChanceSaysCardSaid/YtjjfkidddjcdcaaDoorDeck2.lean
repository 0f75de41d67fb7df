/- Proved here: contracts of package chance's Deck at this program. Conditions: as each theorem says.
   Proved here: contracts of package chance's Deck at this program, of none, of wrong numbers or bits. Conditions: as each theorem says. -/
import Derived.Test.YtjjfkidddjcdcaaDoorDeckPlain
import Derived.BigRegion
namespace Go.Proofs.YtjjfkidddjcdcaaDoor
open Go.ChangeShapes Go.WideShapes Go.ChangeAt Go.RowKit

/-- What Deck leaves and hands back. -/
def DeckEnd (w : World) (s : Nat → Int) (a : Nat) (short : Bool) (n N : Nat) (e : Ending) (w' : World) : Prop :=
  Below w.heap.size w w' ∧ (short = true → e = .returned (.tuple #[.slice none 0 0, .int .i64 0, .agg #[.int .i64 9, .int .i64 n]])) ∧
    (short = false → ∃ D c, e = .returned (.tuple #[.slice (some ⟨D, 0, none⟩) N c, .int .i64 a, .agg #[.int .i64 0, .int .i64 0]]) ∧ D < w'.heap.size ∧ Cards w' D N s)

def DeckRel (f : Nat → Int) (res : (Nat → Int) × Nat × Bool) (w : World) (t : Nat) (A : Option Addr) (n c N D gk : Nat) (v11 : Value) (wr : World) : Prop :=
  ∃ (i a : Nat) (sh : Bool) (s : Nat → Int), gk = i ∧ i < N ∧ a ≤ n ∧ v11 = .int .i64 (i : Nat) ∧ To w wr t A n c a sh ∧ Cards wr D N s ∧ (sh = true → a = n ∧ res.2.2 = true) ∧ (sh = false → deckS f n i a s = res)

/-- What a round's pick leaves. -/
def DeckPick (f : Nat → Int) (res : (Nat → Int) × Nat × Bool) (s : Nat → Int) (w wr : World) (t : Nat) (A : Option Addr) (n c i : Nat) (e : Ending) (w' : World) : Prop :=
  ∃ (k a : Nat) (sh : Bool), e = .returned (.int .i64 (k : Nat)) ∧ k < i + 2 ∧ a ≤ n ∧ wr.grownBy w' (some t) ∧ To w w' t A n c a sh ∧ (sh = true → a = n ∧ res.2.2 = true) ∧ (sh = false → deckS f n i a (swapF s (i + 1) k) = res)

theorem deck_pick (f : Nat → Int) (res : (Nat → Int) × Nat × Bool) (s : Nat → Int) (w wr : World) (t : Nat) (A : Option Addr) (n c i a : Nat) (sh : Bool) (hi : i + 2 ≤ 1000000) (hn : n ≤ 1000000) (hok : ∀ j, j < n → OkBit (f j)) (ha : a ≤ n)
    (hTo : To w wr t A n c a sh) (hR : Row w A n f) (hA : Apart A n t) (hsh : sh = true → a = n ∧ res.2.2 = true) (hns : sh = false → deckS f n (i + 1) a s = res) :
    Calls Tryd.prog 59 #[.pointer (some ⟨t, 0, none⟩), .int .i64 ((i + 2 : Nat) : Int)] wr (DeckPick f res s w wr t A n c i) := by
  have h1 : (1 : Int) ≤ ((i + 2 : Nat) : Int) := by omega
  cases sh
  · have hres := hns rfl
    have hr := pickS_range f n (szOf (i + 2)) ((i + 2 : Nat) : Int) h1 hok (n + 1) a ha
    refine (pick_from t n c a (n + 1) A f ((i + 2 : Nat) : Int) (szOf (i + 2)) hn h1 (by omega) (szOf_le _ hi) (szOf_low _ (by omega)) (szOf_high _ (by omega)) wr hTo.1 ha (by omega) (hR.grown hTo.2 hA) hok hA _ rfl).mono ?_
    rintro e w' ⟨rfl, hTo2⟩
    unfold deckS at hres
    generalize pickS f n (szOf (i + 2)) ((i + 2 : Nat) : Int) (n + 1) a = r at *
    obtain ⟨r1, r2, r3⟩ := r
    obtain ⟨q1, q2, q3, q4⟩ := hr
    have e1 : (r1.toNat : Int) = r1 := Int.toNat_of_nonneg q1
    refine ⟨r1.toNat, r2, r3, by rw [e1], by have q2' : r1 < ((i + 2 : Nat) : Int) := q2; omega, q3, hTo2.2, hTo.trans hTo2, fun h => ?_, fun h => ?_⟩
    · have h' : r3 = true := h
      subst h'
      have hres' : (s, n, true) = res := hres
      exact ⟨q4 rfl, by rw [← hres']⟩
    · have h' : r3 = false := h
      subst h'
      exact hres
  · obtain ⟨rfl, h2⟩ := hsh rfl
    refine (pick_none t a c A ((i + 2 : Nat) : Int) (szOf (i + 2)) h1 (by omega) (szOf_le _ hi) (szOf_low _ (by omega)) (szOf_high _ (by omega)) wr hTo.1).mono ?_
    rintro e w' ⟨rfl, hTo2⟩
    exact ⟨0, a, true, rfl, by omega, Nat.le_refl _, hTo2.2, hTo.trans hTo2, fun _ => ⟨rfl, h2⟩, fun h => by cases h⟩

set_option maxRecDepth 100000 in
set_option maxHeartbeats 8000000 in
theorem deck_mid (N n c : Nat) (A : Option Addr) (f : Nat → Int) (w : World) (hn : n ≤ 2000) (hR : Row w A n f) (hok : ∀ j, j < n → OkBit (f j)) (hN1 : 1 ≤ N) (hN2 : N ≤ 60)
    (s : Nat → Int) (a : Nat) (sh : Bool) (hres : Hid (deckS f n (N - 1) 0 (fun j => (j : Int)) = (s, a, sh))) :
    Calls Tryd.prog 48 #[.int .i64 (N : Nat), .slice A n c] w (DeckEnd w s a sh n N) := by
  have HR := Lib.hid hR
  have HO := Lib.hid hok
  obtain ⟨i0, hi, hz0, hz1, hz2⟩ : ∃ i, Tryd.prog.info? 3 = some i ∧ i.zero = some (.int .i64 0) ∧ i.size = 1 ∧ i.bytes = 8 := ⟨_, rfl, rfl, rfl, rfl⟩
  have HI := Lib.hid hi
  have HZ0 := Lib.hid hz0
  have HZ1 := Lib.hid hz1
  have HZ2 := Lib.hid hz2
  clear hR hok hi hz0 hz1 hz2
  go_enter Tryd.func48, Tryd.ntmps48
  go_wp2_with fail
  have H0 := Lib.hid (Held.new w)
  refine (check_ok n c A f _ hn (HR.out.below ((Below.refl _ _).alloc (Nat.le_refl _) _)) HO.out).mono ?_
  rintro e w1 ⟨rfl, hb1⟩
  have H1 := Lib.hid (H0.out.below hb1)
  have HR1 := Lib.hid ((HR.out.below ((Below.refl _ _).alloc (Nat.le_refl _) _)).below hb1)
  clear hb1 H0
  have hz : w.heap.size < w1.heap.size := H1.out.sz
  go_wp2_with fail
  all_goals first | (exfalso; omega) | skip
  have HT : Tape ((w1.alloc (Obj.cells #[Value.int IntKind.i64 0, Value.int IntKind.i64 0] 26)).alloc (Obj.cells #[Value.slice A n c, Value.int IntKind.i64 0, Value.bool false] 85)) (w1.heap.size + 1) A n c 0 false := Whole.new _ _ _ _ (by simp)
  have HR2 := Lib.hid ((HR1.out.below ((Below.refl _ _).alloc (Nat.le_refl _) (Obj.cells #[Value.int IntKind.i64 0, Value.int IntKind.i64 0] 26))).below ((Below.refl _ _).alloc (Nat.le_refl _) (Obj.cells #[Value.slice A n c, Value.int IntKind.i64 0, Value.bool false] 85)))
  have H2 := Lib.hid ((H1.out.alloc (Obj.cells #[Value.int IntKind.i64 0, Value.int IntKind.i64 0] 26)).alloc (Obj.cells #[Value.slice A n c, Value.int IntKind.i64 0, Value.bool false] 85))
  have hA : Apart A n (w1.heap.size + 1) := HR1.out.apart (by omega)
  have HA := Lib.hid hA
  have ht : w.heap.size < w1.heap.size + 1 := by omega
  have htl := HT.lt
  clear hA HR HR1 H1
  generalize ((w1.alloc (Obj.cells #[Value.int IntKind.i64 0, Value.int IntKind.i64 0] 26)).alloc (Obj.cells #[Value.slice A n c, Value.int IntKind.i64 0, Value.bool false] 85)) = w2 at *
  generalize w1.heap.size + 1 = t at *
  have HHT := Lib.hid (To.refl HT)
  clear HT
  go_loopg [9, 10, 32] N (fun gk v9 v10 v32 wr => ∃ k : Nat, gk + k = N ∧ v32 = .int .i64 (k : Nat) ∧ wr.ownsRow w2.heap.size 3 1 v9 k ((List.range k).map fun j : Nat => .int .i64 (j : Int)) ∧ Below w2.heap.size w2 wr)
  case atStart => exact ⟨0, by omega, rfl, World.ownsRow_nil _ _ _ _, Below.refl _ _⟩
  case round =>
    obtain ⟨k, hk, rfl, hown, hbe⟩ := hrel
    have HBE := Lib.hid hbe
    have hsz := hbe.size
    clear hbe
    by_cases hlt : k < N
    · obtain ⟨gk, rfl⟩ : ∃ g', gk = g' + 1 := ⟨gk - 1, by omega⟩
      go_wp2_with (first
        | (at_builtin; refine wpList_append_own _ rfl _ _ 23 rfl w2.heap.size 3 i0 (.int .i64 0) 1 8 Tryd.underlying23 HI.out HZ0.out HZ1.out HZ2.out rfl (by decide) _ _ _ rfl (hown.alloc _) ⟨wr.heap.size, 0, none⟩ 1 1 [.int .i64 (k : Int)] rfl rfl ?c1 ?c2 ?c3 ?c4 ?c5 ?_))
      case c1 =>
        intro j u hj
        match j, hj with
        | 0, hj => simp at hj; subst hj; simp [Addr.add]
      case c2 => intro u hu; simp at hu; subst hu; rfl
      case c3 => unfold maxLen; omega
      case c4 => omega
      case c5 => simp; omega
      intro v' w' hown' hgrow _
      have hbe' : Below w2.heap.size w2 w' := (HBE.out.alloc hsz _).grown hgrow (by simp; omega) (fun q hq => (hown.lt q hq).1)
      have HB' := Lib.hid hbe'
      clear hgrow hown hbe'
      go_wp2_with fail
      go_roundg gk
      case measure => omega
      case rel => exact ⟨k + 1, by omega, by go_num, by rw [List.range_succ, List.map_append]; exact hown', HB'.out⟩
    · obtain rfl : k = N := by omega
      obtain ⟨D, cD, rfl, hD, hcD, hC⟩ := Cards.of_own hown (by omega)
      have hTo : To w2 wr t A n c 0 false := ⟨HHT.out.1.below HBE.out htl, grown_below (grown_refl _ _) HBE.out⟩
      have HTo := Lib.hid hTo
      have HC := Lib.hid hC
      clear HHT HBE hown hTo hC
      go_wp2_with fail
      have HS : Hid (DeckRel f (s, a, sh) w2 t A n c k D (k - 1) (.int .i64 ((k - 1 : Nat) : Int)) wr) := ⟨k - 1, 0, false, fun j => (j : Int), rfl, by omega, by omega, rfl, HTo.out, HC.out, (fun h => by cases h), fun _ => hres.out⟩
      clear HTo HC hres
      have hk1 : (k : Int) - 1 = ((k - 1 : Nat) : Int) := by omega
      rw [hk1]
      clear hk1
      go_loopg [11, 12] (k - 1) (fun gk v11 v12 wr => DeckRel f (s, a, sh) w2 t A n c k D gk v11 wr)
      case atStart => exact HS.out
      case round =>
        clear HS
        rename_i wq _ _
        obtain ⟨i, a', sh', σ, rfl, hi, ha, rfl, hTo, hC, hsh, hns⟩ := hrel
        have HTo := Lib.hid hTo
        have HC := Lib.hid hC
        clear hTo hC
        rcases gk with _ | i
        · cases sh'
          · have hres := hns rfl
            have h1 : (σ, a', false) = (s, a, sh) := hres
            injection h1 with e1 e2
            injection e2 with e2 e3
            subst e1 e2 e3
            clear hres hns hsh
            go_wp2_with fail
            have H3 := Lib.hid (H2.out.grown (HTo.out).2 ht)
            refine (told_slice_ok t n c a' A _ _ _ _ (HTo.out).1).mono ?_
            rintro e w4 ⟨rfl, hb4⟩
            have H4 := H3.out.below hb4
            have H5 := Lib.hid H4
            obtain ⟨c0, c1, f0, f1, sz, be⟩ := H4
            have HC4 := Lib.hid (HC.out.below hb4 HC.out.lt)
            clear hb4 be H3
            have hDr : D ≠ w.heap.size := by omega
            go_wp2_with fail
            refine bodyPost_ret (v := .tuple #[.slice (some ⟨D, 0, none⟩) k cD, .int .i64 a', .agg #[.int .i64 0, .int .i64 0]]) (by simp [results, Tryd.results48, go_sem, c0, c1]) rfl ⟨(H5.out.be.setCell (Nat.le_refl _) _).setCell (Nat.le_refl _) _, fun h => (by cases h), fun _ => ⟨D, cD, rfl, ?_, ?_⟩⟩
            · exact ((HC4.out.far (p := ⟨w.heap.size, 0, none⟩) hDr _).far (p := ⟨w.heap.size, 1, none⟩) hDr _).lt
            · exact (HC4.out.far (p := ⟨w.heap.size, 0, none⟩) hDr _).far (p := ⟨w.heap.size, 1, none⟩) hDr _
          · obtain ⟨rfl, hsh2⟩ := hsh rfl
            have hsh3 : sh = true := hsh2
            subst hsh3
            clear hns hsh hsh2
            go_wp2_with fail
            have H3 := Lib.hid (H2.out.grown (HTo.out).2 ht)
            refine (told_slice_short t a' c a' A _ _ _ _ (HTo.out).1).mono ?_
            rintro e w4 ⟨rfl, hb4⟩
            have H4 := H3.out.below hb4
            have H5 := Lib.hid H4
            obtain ⟨c0, c1, f0, f1, sz, be⟩ := H4
            clear hb4 be H3
            go_wp2_with fail
            exact bodyPost_ret (v := .tuple #[.slice none 0 0, .int .i64 0, .agg #[.int .i64 9, .int .i64 a']]) (by simp [results, Tryd.results48, go_sem, c0, c1]) rfl ⟨(H5.out.be.setCell (Nat.le_refl _) _).setCell (Nat.le_refl _) _, fun _ => rfl, fun h => (by cases h)⟩
        · have CP := Lib.hid (deck_pick f (s, a, sh) σ w2 wr t A n c i a' sh' (by omega) (by omega) HO.out ha HTo.out HR2.out HA.out hsh hns)
          have hi2 : ((i + 2 : Nat) : Int) = (i : Int) + 2 := by omega
          rw [hi2] at CP
          clear hsh hns hi2
          go_wp2_with fail
          refine CP.out.mono ?_
          rintro e w3 ⟨K, a3, sh3, rfl, hK, ha3, hg3, hTo3, hsh3, hns3⟩
          have hC3 : Cards w3 D k σ := HC.out.grown hg3 (by omega)
          have HTo3 := Lib.hid hTo3
          have HSH3 := Lib.hid hsh3
          have HNS3 := Lib.hid hns3
          have HC3 := Lib.hid hC3
          clear hTo3 hsh3 hns3 hC3 CP HTo HC hg3
          have di := HC3.out.cell (i + 1) hi
          have dk := HC3.out.cell K (by omega)
          have fi := HC3.out.frozen (i + 1)
          have fk := HC3.out.frozen K
          have FIN : ∀ q : Nat, DeckRel f (s, a, sh) w2 t A n c k D i (.int .i64 (i : Nat)) ((((w3.setCell ⟨D, i + 1, none⟩ (.int .i64 (σ K))).setCell ⟨D, K, none⟩ (.int .i64 (σ (i + 1))))).drewN q) := fun q =>
            ⟨i, a3, sh3, swapF σ (i + 1) K, rfl, by omega, ha3, rfl, ((HTo3.out.far (D := D) rfl hD (by omega) _).far (D := D) rfl hD (by omega) _).drewN q, (HC3.out.swap (i + 1) K hi (by omega)).drewN q, HSH3.out, HNS3.out⟩
          have HFIN := Lib.hid FIN
          clear FIN
          by_cases hKi : K = i + 1
          · subst hKi
            generalize σ (i + 1) = si at *
            go_wp2_with fail
            go_region
            go_wp2_with fail
            go_roundg i
            case measure => omega
            case rel => exact HFIN.out 1
          · generalize σ (i + 1) = si at *
            generalize σ K = sk at *
            go_wp2_with fail
            go_region
            go_wp2_with fail
            go_roundg i
            case measure => omega
            case rel => exact HFIN.out 1
end Go.Proofs.YtjjfkidddjcdcaaDoor

namespace Go.Proofs.YtjjfkidddjcdcaaDoor
open Go.ChangeShapes Go.WideShapes Go.ChangeAt Go.RowKit

set_option maxHeartbeats 1000000 in
theorem deck_nil (N : Int) (n c : Nat) (A : Option Addr) (f : Nat → Int) (w : World) (hn : n ≤ 2000) (hR : Row w A n f) (hok : ∀ j, j < n → OkBit (f j)) (hN : N = 0) :
    Calls Tryd.prog 48 #[.int .i64 N, .slice A n c] w fun e w' => e = .returned (.tuple #[.slice none 0 0, .int .i64 0, .agg #[.int .i64 0, .int .i64 0]]) ∧ Below w.heap.size w w' := by
  have HR := Lib.hid hR
  have HO := Lib.hid hok
  subst hN
  clear hR hok
  go_enter Tryd.func48, Tryd.ntmps48
  go_wp2_with fail
  have H0 := Lib.hid (Held.new w)
  refine (check_ok n c A f _ hn (HR.out.below ((Below.refl _ _).alloc (Nat.le_refl _) _)) HO.out).mono ?_
  rintro e w1 ⟨rfl, hb1⟩
  have H1 := Lib.hid (H0.out.below hb1)
  clear hb1 H0
  have hz : w.heap.size < w1.heap.size := H1.out.sz
  go_wp2_with fail
  all_goals first | (exfalso; omega) | skip
  have HT : Tape ((w1.alloc (Obj.cells #[Value.int IntKind.i64 0, Value.int IntKind.i64 0] 26)).alloc (Obj.cells #[Value.slice A n c, Value.int IntKind.i64 0, Value.bool false] 85)) (w1.heap.size + 1) A n c 0 false := Whole.new _ _ _ _ (by simp)
  have H2 := Lib.hid ((H1.out.alloc (Obj.cells #[Value.int IntKind.i64 0, Value.int IntKind.i64 0] 26)).alloc (Obj.cells #[Value.slice A n c, Value.int IntKind.i64 0, Value.bool false] 85))
  have HHT := Lib.hid HT
  clear HT H1
  generalize ((w1.alloc (Obj.cells #[Value.int IntKind.i64 0, Value.int IntKind.i64 0] 26)).alloc (Obj.cells #[Value.slice A n c, Value.int IntKind.i64 0, Value.bool false] 85)) = w2 at *
  generalize w1.heap.size + 1 = t at *
  go_loopg [9, 10, 32] 0 (fun gk v9 v10 v32 wr => v32 = .int .i64 0 ∧ v9 = .slice none 0 0 ∧ wr = w2)
  case atStart => exact ⟨rfl, rfl, rfl⟩
  case round =>
    obtain ⟨rfl, rfl, rfl⟩ := hrel
    go_wp2_with fail
    go_loopg [11, 12] 0 (fun gk v11 v12 wr2 => v11 = .int .i64 (-1) ∧ wr2 = wr)
    case atStart => exact ⟨rfl, rfl⟩
    case round =>
      obtain ⟨rfl, rfl⟩ := hrel
      go_wp2_with fail
      refine (told_slice_ok t n c 0 A _ _ _ _ HHT.out).mono ?_
      rintro e w3 ⟨rfl, hb3⟩
      have H4 := H2.out.below hb3
      have H5 := Lib.hid H4
      obtain ⟨c0, c1, f0, f1, sz, be⟩ := H4
      clear hb3 be H2
      go_wp2_with fail
      exact bodyPost_ret (v := .tuple #[.slice none 0 0, .int .i64 0, .agg #[.int .i64 0, .int .i64 0]]) (by simp [results, Tryd.results48, go_sem, c0, c1]) rfl ⟨rfl, (H5.out.be.setCell (Nat.le_refl _) _).setCell (Nat.le_refl _) _⟩

set_option maxHeartbeats 1000000 in
theorem deck_range (N : Int) (n c : Nat) (A : Option Addr) (f : Nat → Int) (w : World) (hn : n ≤ 2000) (hR : Row w A n f) (hok : ∀ j, j < n → OkBit (f j)) (hbad : N < 0 ∨ 60 < N) :
    Calls Tryd.prog 48 #[.int .i64 N, .slice A n c] w fun e w' => e = .returned (.tuple #[.slice none 0 0, .int .i64 0, .agg #[.int .i64 3, .int .i64 n]]) ∧ Below w.heap.size w w' := by
  have HR := Lib.hid hR
  have HO := Lib.hid hok
  have HB := Lib.hid hbad
  clear hR hok hbad
  go_enter Tryd.func48, Tryd.ntmps48
  go_wp2_with fail
  have H0 := Lib.hid (Held.new w)
  refine (check_ok n c A f _ hn (HR.out.below ((Below.refl _ _).alloc (Nat.le_refl _) _)) HO.out).mono ?_
  rintro e w1 ⟨rfl, hb1⟩
  have H1 := Lib.hid (H0.out.below hb1)
  clear hb1 H0
  have hz : w.heap.size < w1.heap.size := H1.out.sz
  have H5 := Lib.hid H1.out
  obtain ⟨c0, c1, f0, f1, sz, be⟩ := H1.out
  clear be H1
  go_wp2_with fail
  all_goals first | (exfalso; have := HB.out; omega) | skip
  all_goals exact bodyPost_ret (v := .tuple #[.slice none 0 0, .int .i64 0, .agg #[.int .i64 3, .int .i64 n]]) (by simp [results, Tryd.results48, go_sem, c0, c1, hz]) rfl ⟨rfl, ((H5.out.be.setCell (Nat.le_refl _) _).setCell (Nat.le_refl _) _).alloc (by simp; omega) _⟩

set_option maxHeartbeats 1000000 in
theorem deck_fault (N code at_ : Int) (n c : Nat) (A : Option Addr) (w : World) (hC : Refuses A n c code at_ (w.alloc (Obj.cells #[.int .i64 0, .int .i64 0] 26))) (hcode : (code != 0) = true) :
    Calls Tryd.prog 48 #[.int .i64 N, .slice A n c] w fun e w' => e = .returned (.tuple #[.slice none 0 0, .int .i64 0, .agg #[.int .i64 code, .int .i64 at_]]) ∧ Below w.heap.size w w' := by
  have HC := Lib.hid hC
  clear hC
  go_enter Tryd.func48, Tryd.ntmps48
  go_wp2_with fail
  have H0 := Lib.hid (Held.new w)
  refine HC.out.mono ?_
  rintro e w1 ⟨rfl, hb1⟩
  have H1 := Lib.hid (H0.out.below hb1)
  clear hb1 H0
  have hz : w.heap.size < w1.heap.size := H1.out.sz
  have H5 := Lib.hid H1.out
  obtain ⟨c0, c1, f0, f1, sz, be⟩ := H1.out
  clear be H1
  go_wp2_with fail
  go_region
  go_wp2_with fail
  exact bodyPost_ret (v := .tuple #[.slice none 0 0, .int .i64 0, .agg #[.int .i64 code, .int .i64 at_]]) (by simp [results, Tryd.results48, go_sem, c0, c1, hz]) rfl ⟨rfl, (((H5.out.be.setCell (Nat.le_refl _) _).setCell (Nat.le_refl _) _).alloc (by simp; omega) _).drew⟩
end Go.Proofs.YtjjfkidddjcdcaaDoor
