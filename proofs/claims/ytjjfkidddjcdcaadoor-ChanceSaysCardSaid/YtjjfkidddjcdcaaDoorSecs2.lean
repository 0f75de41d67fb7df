/- Proved here: what the law ChanceSays compares, flips and fades: the document's answer and the program's are one. Conditions: as each theorem says.
   Proved here: what the law ChanceSays compares, decks and units: the document's answer and the program's are one. Conditions: as each theorem says. -/
import Derived.Test.YtjjfkidddjcdcaaDoorSaysKeep
import Derived.Test.YtjjfkidddjcdcaaDoorFades
import Derived.Test.YtjjfkidddjcdcaaDoorFade2
import Derived.Test.YtjjfkidddjcdcaaDoorChoose
import Derived.Test.YtjjfkidddjcdcaaDoorDeck2
import Derived.Test.YtjjfkidddjcdcaaDoorShuffled
import Derived.Test.YtjjfkidddjcdcaaDoorUnit
import Derived.Test.YtjjfkidddjcdcaaDoorDrawn
namespace Go.Proofs.YtjjfkidddjcdcaaDoor
open Go.ChangeShapes Go.WideShapes Go.ChangeAt Go.RowKit

/-- What is to be said of the bits: too many; a wrong one at a place; right ones. -/
def BitsAre (f : Nat → Int) (n : Nat) (code at_ : Int) : Prop :=
  (code = 2 ∧ at_ = 0 ∧ 2000 < n) ∨ (∃ i, i < n ∧ n ≤ 2000 ∧ (∀ j, j < i → OkBit (f j)) ∧ ¬ OkBit (f i) ∧ code = 3 ∧ at_ = i) ∨ (n ≤ 2000 ∧ (∀ j, j < n → OkBit (f j)) ∧ code = 0 ∧ at_ = 0)

theorem bits_total (f : Nat → Int) (n : Nat) : ∃ code at_, BitsAre f n code at_ := by
  by_cases hn : 2000 < n
  · exact ⟨2, 0, .inl ⟨rfl, rfl, hn⟩⟩
  · have key : ∀ k, k ≤ n → (∀ j, j < k → OkBit (f j)) ∨ ∃ i, i < n ∧ (∀ j, j < i → OkBit (f j)) ∧ ¬ OkBit (f i) := by
      intro k
      induction k with
      | zero => intro _; exact .inl (fun j h => by omega)
      | succ k ih =>
        intro hk
        rcases ih (by omega) with h | h
        · by_cases ho : OkBit (f k)
          · refine .inl fun j hj => ?_
            by_cases e : j = k
            · rw [e]; exact ho
            · exact h j (by omega)
          · exact .inr ⟨k, by omega, h, ho⟩
        · exact .inr h
    rcases key n (Nat.le_refl _) with h | ⟨i, h1, h2, h3⟩
    · exact ⟨0, 0, .inr (.inr ⟨by omega, h, rfl, rfl⟩)⟩
    · exact ⟨3, i, .inr (.inl ⟨i, h1, by omega, h2, h3, rfl, rfl⟩)⟩

theorem bits_any (f : Nat → Int) (n c : Nat) (code at_ : Int) (A : Option Addr) (w : World) (h : BitsAre f n code at_) (hn : n ≤ 3000) (hR : Row w A n f) :
    Calls Tryd.prog 39 #[.slice A n c] w fun e w' => e = .returned (.agg #[.int .i64 code, .int .i64 at_]) ∧ Below w.heap.size w w' := by
  rcases h with ⟨rfl, rfl, h⟩ | ⟨i, h1, h2, h3, h4, rfl, rfl⟩ | ⟨h1, h2, rfl, rfl⟩
  · exact bits_many n c A w h (by omega)
  · exact bits_bad n c i A f w h2 h1 hR h3 h4
  · exact bits_ok n c A f w h1 hR h2
theorem bits_refuse (f : Nat → Int) (n c : Nat) (code at_ : Int) (A : Option Addr) (w : World) (h : BitsAre f n code at_) (hc : code ≠ 0) (hn : n ≤ 3000) (hR : Row w A n f) : Refuses A n c code at_ w := by
  rcases h with ⟨rfl, rfl, h⟩ | ⟨i, h1, h2, h3, h4, rfl, rfl⟩ | ⟨h1, h2, rfl, rfl⟩
  · exact check_many n c A w h (by omega)
  · exact check_bad n c i A f w h2 h1 hR h3 h4
  · exact absurd rfl hc
theorem bits_right {f : Nat → Int} {n : Nat} {at_ : Int} (h : BitsAre f n 0 at_) : n ≤ 2000 ∧ (∀ j, j < n → OkBit (f j)) ∧ at_ = 0 := by
  rcases h with ⟨h, _⟩ | ⟨i, _, _, _, _, h, _⟩ | ⟨h1, h2, _, h3⟩
  · cases h
  · cases h
  · exact ⟨h1, h2, h3⟩

theorem agg_inj {a b x y : Int} (h : Value.agg #[.int .i64 a, .int .i64 b] = .agg #[.int .i64 x, .int .i64 y]) : a = x ∧ b = y := by
  injection h with h
  simpa using h

/-- What the law compares, of answers that are a bool and a number: the program's (function k, arguments xs ahead of the bits) and the document's (function d, arguments xs, the bits, and zs). -/
structure Same (T : Type) (inj : T → Value) (zero : T) (k d : Nat) (xs zs : Array Value) (lim : Bool) (f : Nat → Int) (n : Nat) (code at_ : Int) (yes : T) (used : Int) (ok : Bool) (c1 a1 g1 g2 : Int) : Prop where
  lims : limitsS lim code at_ n = .agg #[.int .i64 c1, .int .i64 a1]
  doc : c1 = 0 → ∀ (A : Option Addr) (c : Nat) (w : World), n ≤ c → Row w A n f → Calls Tryd.prog d (xs ++ #[.slice A n c] ++ zs) w fun e w' => Below w.heap.size w w' ∧ ∃ (y0 : T) (u0 : Int), e = .returned (.tuple #[inj y0, .int .i64 u0, .bool ok]) ∧ (ok = true → y0 = yes ∧ u0 = used)
  none_ : (c1 ≠ 0 → yes = zero ∧ used = 0 ∧ ok = true) ∧ (c1 = 0 → ok = false → yes = zero ∧ used = 0)
  pro : ∀ (A : Option Addr) (c : Nat) (w : World), Row w A n f → Calls Tryd.prog k (xs ++ #[.slice A n c]) w fun e w' => e = .returned (.tuple #[inj yes, .int .i64 used, .agg #[.int .i64 g1, .int .i64 g2]]) ∧ Below w.heap.size w w'
  shorts : shortS ok c1 a1 n = .agg #[.int .i64 g1, .int .i64 g2]

theorem limits_fail (code at_ : Int) (n : Nat) (hc : code = 0) : limitsS false code at_ n = .agg #[.int .i64 3, .int .i64 n] := if_pos ⟨hc, rfl⟩
theorem limits_ok (code at_ : Int) (n : Nat) : limitsS true code at_ n = .agg #[.int .i64 code, .int .i64 at_] := if_neg (fun h => by cases h.2)
theorem limits_bad (b : Bool) (code at_ : Int) (n : Nat) (hc : code ≠ 0) : limitsS b code at_ n = .agg #[.int .i64 code, .int .i64 at_] := if_neg (fun h => hc h.1)
theorem short_ok (c1 a1 : Int) (n : Nat) : shortS true c1 a1 n = .agg #[.int .i64 c1, .int .i64 a1] := if_neg (fun h => by cases h.2)
theorem short_fail (a1 : Int) (n : Nat) : shortS false 0 a1 n = .agg #[.int .i64 9, .int .i64 n] := if_pos ⟨rfl, rfl⟩

theorem flip_same (p q : Int) (f : Nat → Int) (n : Nat) (code at_ : Int) (h : BitsAre f n code at_) (hn : n ≤ 3000) :
    ∃ yes used ok c1 a1 g1 g2, Same Bool Value.bool false 10 43 #[.int .i64 p, .int .i64 q] #[.int .i64 0] (decide (1 ≤ q ∧ q ≤ 1000000 ∧ 0 ≤ p ∧ p ≤ q)) f n code at_ yes used ok c1 a1 g1 g2 := by
  by_cases hc : code = 0
  · subst hc
    obtain ⟨hn2, hok, rfl⟩ := bits_right h
    by_cases hl : 1 ≤ q ∧ q ≤ 1000000 ∧ 0 ≤ p ∧ p ≤ q
    · rw [decide_eq_true hl]
      obtain ⟨h1, h2, h3, h4⟩ := hl
      obtain ⟨v, a, sh, hT⟩ : ∃ v a sh, tossS f n p q 0 = (v, a, sh) := ⟨_, _, _, rfl⟩
      have hdoc : ∀ (A : Option Addr) (c : Nat) (w : World), Row w A n f → Calls Tryd.prog 43 #[.int .i64 p, .int .i64 q, .slice A n c, .int .i64 0] w fun e w' => Below w.heap.size w w' ∧ e = .returned (.tuple #[.bool (v && !sh), .int .i64 (a : Nat), .bool (!sh)]) := fun A c w hR =>
        toss_any p q n c 0 A f w hn h3 h4 h1 (by omega) hok (by omega) hR v sh a hT
      have hpro : ∀ (A : Option Addr) (c : Nat) (w : World) (x1 : Bool) (x2 x3 x4 : Int), toldS (.bool false) (.bool v, a, sh) n = .tuple #[.bool x1, .int .i64 x2, .agg #[.int .i64 x3, .int .i64 x4]] → Row w A n f → Calls Tryd.prog 10 #[.int .i64 p, .int .i64 q, .slice A n c] w fun e w' => e = .returned (.tuple #[.bool x1, .int .i64 x2, .agg #[.int .i64 x3, .int .i64 x4]]) ∧ Below w.heap.size w w' := fun A c w x1 x2 x3 x4 hx hR => by
        have hT' := hT
        unfold tossS at hT'
        by_cases e1 : p = q
        · rw [if_pos e1] at hT'
          injection hT' with t1 t2
          injection t2 with t2 t3
          subst t1 t2 t3
          have := flip_all p q n c A f w hn2 hR hok e1 (by omega) h2
          rw [← hx]
          exact this
        · rw [if_neg e1] at hT'
          by_cases e2 : p = 0
          · rw [if_pos e2] at hT'
            injection hT' with t1 t2
            injection t2 with t2 t3
            subst t1 t2 t3
            have := flip_none p q n c A f w hn2 hR hok e2 h1 h2
            rw [← hx]
            exact this
          · rw [if_neg e2] at hT'
            exact flip_mid p q n c A f w hn2 hR hok (by omega) (by omega) h2 v sh a hT' x1 x2 x3 x4 hx
      cases sh
      · refine ⟨v, (a : Nat), true, 0, 0, 0, 0, limits_ok _ _ _, fun _ A c w _ hR => (hdoc A c w hR).mono fun e w' ⟨hb, he⟩ => ⟨hb, v, (a : Nat), by rw [he]; simp, fun _ => ⟨rfl, rfl⟩⟩, ⟨(fun h => absurd rfl h), (fun _ h => by cases h)⟩, fun A c w hR => hpro A c w _ _ _ _ rfl hR, short_ok _ _ _⟩
      · refine ⟨false, 0, false, 0, 0, 9, n, limits_ok _ _ _, fun _ A c w _ hR => (hdoc A c w hR).mono fun e w' ⟨hb, he⟩ => ⟨hb, _, _, he, (fun h => by cases h)⟩, ⟨fun h => absurd rfl h, fun _ _ => ⟨rfl, rfl⟩⟩, fun A c w hR => hpro A c w _ _ _ _ rfl hR, short_fail _ _⟩
    · rw [decide_eq_false hl]
      exact ⟨false, 0, true, 3, n, 3, n, limits_fail _ _ _ rfl, (fun h => by cases h), ⟨fun _ => ⟨rfl, rfl, rfl⟩, (fun h => by cases h)⟩, fun A c w hR => flip_range p q n c A f w hn2 hR hok (by omega), short_ok _ _ _⟩
  · exact ⟨false, 0, true, code, at_, code, at_, limits_bad _ _ _ _ hc, fun h => absurd h hc, ⟨fun _ => ⟨rfl, rfl, rfl⟩, fun h => absurd h hc⟩, fun A c w hR => flip_fault p q code at_ n c A w (bits_refuse f n c code at_ A _ h hc hn (hR.below ((Below.refl _ _).alloc (Nat.le_refl _) _))) (by simpa using hc), short_ok _ _ _⟩

theorem fade_same (p q : Int) (f : Nat → Int) (n : Nat) (code at_ : Int) (h : BitsAre f n code at_) (hn : n ≤ 3000) :
    ∃ yes used ok c1 a1 g1 g2, Same Bool Value.bool false 45 44 #[.int .i64 p, .int .i64 q] #[] (decide (1 ≤ q ∧ q ≤ 1000 ∧ 0 ≤ p ∧ p ≤ q)) f n code at_ yes used ok c1 a1 g1 g2 := by
  by_cases hc : code = 0
  · subst hc
    obtain ⟨hn2, hok, rfl⟩ := bits_right h
    by_cases hl : 1 ≤ q ∧ q ≤ 1000 ∧ 0 ≤ p ∧ p ≤ q
    · rw [decide_eq_true hl]
      obtain ⟨h1, h2, h3, h4⟩ := hl
      obtain ⟨v, a, sh, hT⟩ : ∃ v a sh, fadeS f n p q (n + 4) 1 0 = (v, a, sh) := ⟨_, _, _, rfl⟩
      have hdoc : ∀ (A : Option Addr) (c : Nat) (w : World), Row w A n f → Calls Tryd.prog 44 #[.int .i64 p, .int .i64 q, .slice A n c] w (FadesEnd (v, a, sh) w) := fun A c w hR =>
        fades_any p q n c A f w hn2 h3 h4 h1 h2 hok hR _ hT
      have hpro : ∀ (A : Option Addr) (c : Nat) (w : World) (x1 : Bool) (x2 x3 x4 : Int), toldS (.bool false) (.bool v, a, sh) n = .tuple #[.bool x1, .int .i64 x2, .agg #[.int .i64 x3, .int .i64 x4]] → Row w A n f → Calls Tryd.prog 45 #[.int .i64 p, .int .i64 q, .slice A n c] w fun e w' => e = .returned (.tuple #[.bool x1, .int .i64 x2, .agg #[.int .i64 x3, .int .i64 x4]]) ∧ Below w.heap.size w w' := fun A c w x1 x2 x3 x4 hx hR =>
        fade_mid p q n c A f w hn2 hR hok h3 h4 h1 h2 v sh a hT x1 x2 x3 x4 hx
      cases sh
      · exact ⟨v, (a : Nat), true, 0, 0, 0, 0, limits_ok _ _ _, fun _ A c w _ hR => (hdoc A c w hR).mono fun e w' ⟨hb, he, _⟩ => ⟨hb, v, (a : Nat), he rfl, fun _ => ⟨rfl, rfl⟩⟩, ⟨(fun h => absurd rfl h), (fun _ h => by cases h)⟩, fun A c w hR => hpro A c w _ _ _ _ rfl hR, short_ok _ _ _⟩
      · exact ⟨false, 0, false, 0, 0, 9, n, limits_ok _ _ _, fun _ A c w _ hR => (hdoc A c w hR).mono fun e w' ⟨hb, _, he⟩ => ⟨hb, (he rfl).elim fun b0 ⟨a0, e0⟩ => ⟨b0, (a0 : Nat), e0, (fun h => by cases h)⟩⟩, ⟨fun h => absurd rfl h, fun _ _ => ⟨rfl, rfl⟩⟩, fun A c w hR => hpro A c w _ _ _ _ rfl hR, short_fail _ _⟩
    · rw [decide_eq_false hl]
      exact ⟨false, 0, true, 3, n, 3, n, limits_fail _ _ _ rfl, (fun h => by cases h), ⟨fun _ => ⟨rfl, rfl, rfl⟩, (fun h => by cases h)⟩, fun A c w hR => fade_range p q n c A f w hn2 hR hok (by omega), short_ok _ _ _⟩
  · exact ⟨false, 0, true, code, at_, code, at_, limits_bad _ _ _ _ hc, fun h => absurd h hc, ⟨fun _ => ⟨rfl, rfl, rfl⟩, fun h => absurd h hc⟩, fun A c w hR => fade_fault p q code at_ n c A w (bits_refuse f n c code at_ A _ h hc hn (hR.below ((Below.refl _ _).alloc (Nat.le_refl _) _))) (by simpa using hc), short_ok _ _ _⟩

theorem pick_same (N : Int) (f : Nat → Int) (n : Nat) (code at_ : Int) (h : BitsAre f n code at_) (hn : n ≤ 3000) :
    ∃ yes used ok c1 a1 g1 g2, Same Int (Value.int .i64) 0 11 46 #[.int .i64 N] #[.int .i64 0] (decide (1 ≤ N ∧ N ≤ 1000000)) f n code at_ yes used ok c1 a1 g1 g2 := by
  by_cases hc : code = 0
  · subst hc
    obtain ⟨hn2, hok, rfl⟩ := bits_right h
    by_cases hl : 1 ≤ N ∧ N ≤ 1000000
    · rw [decide_eq_true hl]
      obtain ⟨h1, h2⟩ := hl
      obtain ⟨K, rfl⟩ : ∃ K : Nat, N = K := ⟨N.toNat, by omega⟩
      obtain ⟨v, a, sh, hT⟩ : ∃ v a sh, pickS f n (szOf K) (K : Int) (n + 1) 0 = (v, a, sh) := ⟨_, _, _, rfl⟩
      have hdoc : ∀ (A : Option Addr) (c : Nat) (w : World), n ≤ c → Row w A n f → Calls Tryd.prog 46 #[.int .i64 (K : Nat), .slice A n c, .int .i64 0] w (ChooseEnd (v, a, sh) w) := fun A c w hnc hR =>
        choose_any K n c 0 A f w hn2 hnc (by omega) (by omega) hok (by omega) hR _ hT
      have hpro : ∀ (A : Option Addr) (c : Nat) (w : World) (x1 : Int) (x2 x3 x4 : Int), toldS (.int .i64 0) (.int .i64 v, a, sh) n = .tuple #[.int .i64 x1, .int .i64 x2, .agg #[.int .i64 x3, .int .i64 x4]] → Row w A n f → Calls Tryd.prog 11 #[.int .i64 (K : Nat), .slice A n c] w fun e w' => e = .returned (.tuple #[.int .i64 x1, .int .i64 x2, .agg #[.int .i64 x3, .int .i64 x4]]) ∧ Below w.heap.size w w' := fun A c w x1 x2 x3 x4 hx hR =>
        pick_mid (K : Int) (szOf K) n c A f w hn2 hR hok h1 h2 (szOf_le K (by omega)) (szOf_low K (by omega)) (szOf_high K (by omega)) v sh a hT x1 x2 x3 x4 hx
      cases sh
      · exact ⟨v, (a : Nat), true, 0, 0, 0, 0, limits_ok _ _ _, fun _ A c w hnc hR => (hdoc A c w hnc hR).mono fun e w' ⟨hb, he, _⟩ => ⟨hb, v, (a : Nat), he rfl, fun _ => ⟨rfl, rfl⟩⟩, ⟨(fun h => absurd rfl h), (fun _ h => by cases h)⟩, fun A c w hR => hpro A c w _ _ _ _ rfl hR, short_ok _ _ _⟩
      · exact ⟨0, 0, false, 0, 0, 9, n, limits_ok _ _ _, fun _ A c w hnc hR => (hdoc A c w hnc hR).mono fun e w' ⟨hb, _, he⟩ => ⟨hb, (he rfl).elim fun a0 e0 => ⟨0, (a0 : Nat), e0, (fun h => by cases h)⟩⟩, ⟨fun h => absurd rfl h, fun _ _ => ⟨rfl, rfl⟩⟩, fun A c w hR => hpro A c w _ _ _ _ rfl hR, short_fail _ _⟩
    · rw [decide_eq_false hl]
      exact ⟨0, 0, true, 3, n, 3, n, limits_fail _ _ _ rfl, (fun h => by cases h), ⟨fun _ => ⟨rfl, rfl, rfl⟩, (fun h => by cases h)⟩, fun A c w hR => pick_range N n c A f w hn2 hR hok (by omega), short_ok _ _ _⟩
  · exact ⟨0, 0, true, code, at_, code, at_, limits_bad _ _ _ _ hc, fun h => absurd h hc, ⟨fun _ => ⟨rfl, rfl, rfl⟩, fun h => absurd h hc⟩, fun A c w hR => pick_fault N code at_ n c A w (bits_refuse f n c code at_ A _ h hc hn (hR.below ((Below.refl _ _).alloc (Nat.le_refl _) _))) (by simpa using hc), short_ok _ _ _⟩
end Go.Proofs.YtjjfkidddjcdcaaDoor

namespace Go.Proofs.YtjjfkidddjcdcaaDoor
open Go.ChangeShapes Go.WideShapes Go.ChangeAt Go.RowKit

/-- A slice of m integers, from the head of a block of integers on. -/
def CRow (w : World) (A : Option Addr) (m : Nat) (s : Nat → Int) : Prop := 0 < m → ∃ D, A = some ⟨D, 0, none⟩ ∧ Cards w D m s
theorem CRow.of {w : World} {D m : Nat} {s : Nat → Int} (h : Cards w D m s) : CRow w (some ⟨D, 0, none⟩) m s := fun _ => ⟨D, rfl, h⟩
theorem CRow.row {w : World} {A : Option Addr} {m : Nat} {s : Nat → Int} (h : CRow w A m s) : Row w A m s := fun hm => by
  obtain ⟨D, e, hc⟩ := h hm
  subst e
  exact hc.row hm
theorem CRow.below {w w' : World} {A : Option Addr} {m : Nat} {s : Nat → Int} (h : CRow w A m s) (hb : Below w.heap.size w w') : CRow w' A m s := fun hm => by
  obtain ⟨D, e, hc⟩ := h hm
  exact ⟨D, e, hc.below hb hc.lt⟩
theorem CRow.put {w : World} {A : Option Addr} {m b : Nat} {s : Nat → Int} {cs : Array Value} (h : CRow w A m s) (k : Whole w b 26 cs) (x y : Int) : CRow (putFault w b x y) A m s := fun hm => by
  obtain ⟨D, e, cur, hw, h2⟩ := h hm
  have hne : D ≠ b := fun e => by
    subst e
    have h1 : some (Obj.cells cur 3 (0, 0)) = some (Obj.cells cs 26 (0, 0)) := hw.symm.trans k
    have h2 := congrArg (fun o : Option Obj => match o with | some (.cells _ ty _) => ty | _ => 0) h1
    simp at h2
  exact ⟨D, e, cur, (hw.far (p := ⟨b, 0, none⟩) hne _).far (p := ⟨b, 1, none⟩) hne _, h2⟩

structure SameD (N : Int) (lim : Bool) (f : Nat → Int) (n : Nat) (code at_ : Int) (s : Nat → Int) (m : Nat) (used : Int) (ok : Bool) (c1 a1 g1 g2 : Int) : Prop where
  lims : limitsS lim code at_ n = .agg #[.int .i64 c1, .int .i64 a1]
  doc : c1 = 0 → ∀ (A : Option Addr) (c : Nat) (w : World), n ≤ c → Row w A n f → Calls Tryd.prog 47 #[.int .i64 N, .slice A n c] w fun e w' => Below w.heap.size w w' ∧ ∃ (A1 : Option Addr) (m1 k1 : Nat) (u0 : Int), e = .returned (.tuple #[.slice A1 m1 k1, .int .i64 u0, .bool ok]) ∧ (ok = true → u0 = used ∧ m1 = m ∧ CRow w' A1 m s)
  none_ : (c1 ≠ 0 → m = 0 ∧ used = 0 ∧ ok = true) ∧ (c1 = 0 → ok = false → m = 0 ∧ used = 0)
  pro : ∀ (A : Option Addr) (c : Nat) (w : World), Row w A n f → Calls Tryd.prog 48 #[.int .i64 N, .slice A n c] w fun e w' => Below w.heap.size w w' ∧ ∃ (A2 : Option Addr) (k2 : Nat), e = .returned (.tuple #[.slice A2 m k2, .int .i64 used, .agg #[.int .i64 g1, .int .i64 g2]]) ∧ CRow w' A2 m s
  shorts : shortS ok c1 a1 n = .agg #[.int .i64 g1, .int .i64 g2]
  small : m ≤ 60

theorem crow_nil (w : World) (A : Option Addr) (s : Nat → Int) : CRow w A 0 s := fun h => absurd h (by omega)

theorem deck_same (N : Int) (f : Nat → Int) (n : Nat) (code at_ : Int) (h : BitsAre f n code at_) (hn : n ≤ 3000) :
    ∃ s m used ok c1 a1 g1 g2, SameD N (decide (0 ≤ N ∧ N ≤ 60)) f n code at_ s m used ok c1 a1 g1 g2 := by
  by_cases hc : code = 0
  · subst hc
    obtain ⟨hn2, hok, rfl⟩ := bits_right h
    by_cases hl : 0 ≤ N ∧ N ≤ 60
    · rw [decide_eq_true hl]
      obtain ⟨h1, h2⟩ := hl
      obtain ⟨K, rfl⟩ : ∃ K : Nat, N = K := ⟨N.toNat, by omega⟩
      rcases Nat.eq_zero_or_pos K with hK | hK
      · subst hK
        exact ⟨fun _ => 0, 0, 0, true, 0, 0, 0, 0, limits_ok _ _ _, fun _ A c w _ _ => (shuff_nil n c A w).mono fun e w' ⟨he, hb⟩ => ⟨hb, none, 0, 0, 0, he, fun _ => ⟨rfl, rfl, crow_nil _ _ _⟩⟩, ⟨(fun h => absurd rfl h), (fun _ h => by cases h)⟩,
          fun A c w hR => (deck_nil (0 : Nat) n c A f w hn2 hR hok rfl).mono fun e w' ⟨he, hb⟩ => ⟨hb, none, 0, he, crow_nil _ _ _⟩, short_ok _ _ _, by omega⟩
      · obtain ⟨s, a, sh, hT⟩ : ∃ s a sh, deckS f n (K - 1) 0 (fun j => (j : Int)) = (s, a, sh) := ⟨_, _, _, rfl⟩
        have hdoc : ∀ (A : Option Addr) (c : Nat) (w : World), n ≤ c → Row w A n f → Calls Tryd.prog 47 #[.int .i64 (K : Nat), .slice A n c] w (ShuffEnd w s a sh K) := fun A c w hnc hR => shuff_mid K n c A f w hn2 hnc hR hok hK (by omega) s a sh hT
        have hpro : ∀ (A : Option Addr) (c : Nat) (w : World), Row w A n f → Calls Tryd.prog 48 #[.int .i64 (K : Nat), .slice A n c] w (DeckEnd w s a sh n K) := fun A c w hR => deck_mid K n c A f w hn2 hR hok hK (by omega) s a sh hT
        cases sh
        · refine ⟨s, K, (a : Nat), true, 0, 0, 0, 0, limits_ok _ _ _, fun _ A c w hnc hR => (hdoc A c w hnc hR).mono ?_, ⟨(fun h => absurd rfl h), (fun _ h => by cases h)⟩, fun A c w hR => (hpro A c w hR).mono ?_, short_ok _ _ _, by omega⟩
          · rintro e w' ⟨hb, _, h0⟩
            obtain ⟨D, cD, he, _, hr⟩ := h0 rfl
            have hr := CRow.of hr
            exact ⟨hb, _, K, cD, (a : Nat), he, fun _ => ⟨rfl, rfl, hr⟩⟩
          · rintro e w' ⟨hb, _, h0⟩
            obtain ⟨D, cD, he, _, hr⟩ := h0 rfl
            have hr := CRow.of hr
            exact ⟨hb, _, cD, he, hr⟩
        · refine ⟨s, 0, 0, false, 0, 0, 9, n, limits_ok _ _ _, fun _ A c w hnc hR => (hdoc A c w hnc hR).mono ?_, ⟨(fun h => absurd rfl h), (fun _ _ => ⟨rfl, rfl⟩)⟩, fun A c w hR => (hpro A c w hR).mono ?_, short_fail _ _, by omega⟩
          · rintro e w' ⟨hb, h0, _⟩
            exact ⟨hb, none, 0, 0, 0, h0 rfl, (fun h => by cases h)⟩
          · rintro e w' ⟨hb, h0, _⟩
            exact ⟨hb, none, 0, h0 rfl, crow_nil _ _ _⟩
    · rw [decide_eq_false hl]
      exact ⟨fun _ => 0, 0, 0, true, 3, n, 3, n, limits_fail _ _ _ rfl, (fun h => by cases h), ⟨fun _ => ⟨rfl, rfl, rfl⟩, (fun h => by cases h)⟩, fun A c w hR => (deck_range N n c A f w hn2 hR hok (by omega)).mono fun e w' ⟨he, hb⟩ => ⟨hb, none, 0, he, crow_nil _ _ _⟩, short_ok _ _ _, by omega⟩
  · exact ⟨fun _ => 0, 0, 0, true, code, at_, code, at_, limits_bad _ _ _ _ hc, fun h => absurd h hc, ⟨fun _ => ⟨rfl, rfl, rfl⟩, fun h => absurd h hc⟩, fun A c w hR => (deck_fault N code at_ n c A w (bits_refuse f n c code at_ A _ h hc hn (hR.below ((Below.refl _ _).alloc (Nat.le_refl _) _))) (by simpa using hc)).mono fun e w' ⟨he, hb⟩ => ⟨hb, none, 0, he, crow_nil _ _ _⟩, short_ok _ _ _, by omega⟩

structure SameU (f : Nat → Int) (n : Nat) (code at_ : Int) (y : Nat) (used : Int) (ok : Bool) (g1 g2 : Int) : Prop where
  doc : code = 0 → ∀ (A : Option Addr) (c : Nat) (w : World), n ≤ c → Row w A n f → Calls Tryd.prog 51 #[.slice A n c] w fun e w' => Below w.heap.size w w' ∧ ∃ (y0 : Nat) (u0 : Int), e = .returned (.tuple #[.float .f64 y0, .int .i64 u0, .bool ok]) ∧ (ok = true → y0 = y ∧ u0 = used)
  none_ : (code ≠ 0 → y = 0 ∧ used = 0 ∧ ok = true) ∧ (code = 0 → ok = false → y = 0 ∧ used = 0)
  pro : ∀ (A : Option Addr) (c : Nat) (w : World), Glob w → Row w A n f → Calls Tryd.prog 52 #[.slice A n c] w fun e w' => e = .returned (.tuple #[.float .f64 y, .int .i64 used, .agg #[.int .i64 g1, .int .i64 g2]]) ∧ Below w.heap.size w w'
  shorts : shortS ok code at_ n = .agg #[.int .i64 g1, .int .i64 g2]
  fin : y < 9218868437227405312

theorem nan_fin {y : Nat} (h : y < 9218868437227405312) : nanB y = false := by
  unfold nanB PL.rung
  exact decide_eq_false (by omega)

theorem unit_word {f : Nat → Int} {n M used : Nat} {sh : Bool} (hU : UnitS f n M used sh) (hs : sh = false) (hok : ∀ j, j < n → OkBit (f j)) : PL.rungOf Ieee.double M (-(used : Int)) < 9218868437227405312 ∧ makeW false M (-(used : Int)) = PL.rungOf Ieee.double M (-(used : Int)) := by
  obtain ⟨hM, hu⟩ := unitS_bound hU hs hok
  have hu1 : 1 ≤ used := by
    rcases hU with ⟨j, _, _, _, _, h, _⟩ | ⟨_, h, _⟩ <;> omega
  refine ⟨?_, ?_⟩
  · rcases Nat.eq_zero_or_pos M with h | h
    · rw [h, PL.rung_zero]; omega
    · exact (exact_flt M used h hM hu1 hu).1
  · unfold makeW
    rw [if_neg (by simp), Nat.zero_add, show min (max (-(used : Int)) (-5000)) 5000 = -(used : Int) by omega]
    rfl

theorem unit_same (f : Nat → Int) (n : Nat) (code at_ : Int) (h : BitsAre f n code at_) (hn : n ≤ 3000) :
    ∃ y used ok g1 g2, SameU f n code at_ y used ok g1 g2 := by
  by_cases hc : code = 0
  · subst hc
    obtain ⟨hn2, hok, rfl⟩ := bits_right h
    obtain ⟨M, used, sh, hU⟩ := unitS_total f n hok
    cases sh
    · obtain ⟨hy, hm⟩ := unit_word hU rfl hok
      obtain ⟨y, hye⟩ : ∃ y, PL.rungOf Ieee.double M (-(used : Int)) = y := ⟨_, rfl⟩
      rw [hye] at hy hm
      exact ⟨y, (used : Nat), true, 0, 0, fun _ A c w hnc hR => (drawn_any n c A f w hn2 hnc hR hok M used false hU y hye).mono fun e w' ⟨hb, _, he⟩ => ⟨hb, y, (used : Nat), he rfl, fun _ => ⟨rfl, rfl⟩⟩, ⟨(fun h => absurd rfl h), (fun _ h => by cases h)⟩,
        fun A c w hG hR => unit_mid n c A f w hG hn2 hR hok M used false hU y hm y (used : Nat) 0 0 rfl, short_ok _ _ _, hy⟩
    · exact ⟨0, 0, false, 9, n, fun _ A c w hnc hR => (drawn_any n c A f w hn2 hnc hR hok M used true hU _ rfl).mono fun e w' ⟨hb, he, _⟩ => ⟨hb, 0, 0, he rfl, (fun h => by cases h)⟩, ⟨(fun h => absurd rfl h), (fun _ _ => ⟨rfl, rfl⟩)⟩,
        fun A c w hG hR => unit_mid n c A f w hG hn2 hR hok M used true hU _ rfl 0 0 9 n rfl, short_fail _ _, by omega⟩
  · exact ⟨0, 0, true, code, at_, fun h => absurd h hc, ⟨fun _ => ⟨rfl, rfl, rfl⟩, fun h => absurd h hc⟩, fun A c w _ hR => unit_fault code at_ n c A w (bits_refuse f n c code at_ A _ h hc hn (hR.below ((Below.refl _ _).alloc (Nat.le_refl _) _))) (by simpa using hc), short_ok _ _ _, by omega⟩
end Go.Proofs.YtjjfkidddjcdcaaDoor
