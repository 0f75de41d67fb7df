/- Proved here: contracts of the document's F and CheckBits, of ChanceSays' two closures, of Ints and Floats of package enclosuresame at this program. Conditions: as each theorem says.
   Proved here: the contract of package enclosuresame's Lend of integers at this program. Conditions: as the theorem says.
   Proved here: contracts of package enclosuresame's Lists, Floats and Still at this program. Conditions: as each theorem says.
   Proved here: what stays through the law ChanceSays: the bits, their lent copy, the faults; no program in sight. Conditions: as each theorem says. -/
import Derived.Test.YtjjfkidddjcdcaaDoorFlip
import Derived.Test.YtjjfkidddjcdcaaDoorOdd
import Derived.Test.YtjjfkidddjcdcaaDoorLaid
namespace Go.Proofs.YtjjfkidddjcdcaaDoor
open Go.ChangeShapes Go.WideShapes Go.ChangeAt Go.RowKit

theorem fault_any (x y : Int) (w : World) :
    Calls Tryd.prog 41 #[.int .i64 x, .int .i64 y] w fun e w' => e = .returned (.agg #[.int .i64 x, .int .i64 y]) ∧ Below w.heap.size w w' := by
  go_enter Tryd.func41, Tryd.ntmps41
  go_wp2_with fail
  exact bodyPost_ret (v := .agg #[.int .i64 x, .int .i64 y]) (by simp [results, Tryd.results41, go_sem]) rfl ⟨rfl, by go_grown⟩

theorem bits_many (n c : Nat) (A : Option Addr) (w : World) (hn : 2000 < n) (hn2 : n ≤ 9223372036854775807) :
    Calls Tryd.prog 39 #[.slice A n c] w fun e w' => e = .returned (.agg #[.int .i64 2, .int .i64 0]) ∧ Below w.heap.size w w' := by
  go_enter Tryd.func39, Tryd.ntmps39
  go_wp2_with fail
  refine (fault_any 2 0 _).mono ?_
  rintro e w1 ⟨rfl, hb1⟩
  have hz : w.heap.size < w1.heap.size := by have := hb1.size; simp at this; omega
  have c0 := (hb1.cell (p := ⟨w.heap.size, 0, none⟩) (by simp))
  have c1 := (hb1.cell (p := ⟨w.heap.size, 1, none⟩) (by simp))
  have f0 := (hb1.frozen (p := ⟨w.heap.size, 0, none⟩) (by simp))
  have f1 := (hb1.frozen (p := ⟨w.heap.size, 1, none⟩) (by simp))
  have HB := Lib.hid hb1
  clear hb1
  simp [go_sem] at c0 c1 f0 f1
  go_wp2_with fail
  exact bodyPost_ret (v := .agg #[.int .i64 2, .int .i64 0]) (by simp [results, Tryd.results39, go_sem, c0, c1]) rfl ⟨rfl, ((((Below.refl _ _).alloc (Nat.le_refl _) _).trans (HB.out.mono (by simp))).setCell (Nat.le_refl _) _).setCell (Nat.le_refl _) _⟩

set_option maxHeartbeats 400000 in
theorem bits_ok (n c : Nat) (A : Option Addr) (f : Nat → Int) (w : World) (hn : n ≤ 2000) (hR : Row w A n f) (hok : ∀ j, j < n → OkBit (f j)) :
    Calls Tryd.prog 39 #[.slice A n c] w fun e w' => e = .returned (.agg #[.int .i64 0, .int .i64 0]) ∧ Below w.heap.size w w' := by
  have HR := Lib.hid hR
  have HO := Lib.hid hok
  clear hR hok
  go_enter Tryd.func39, Tryd.ntmps39
  go_wp2_with fail
  go_loop [3, 4, 11] (fun v3 v4 v11 => ∃ k : Nat, k ≤ n ∧ v11 = .int .i64 k) (fun _ _ v11 => n - (intOf v11).toNat)
  case atStart => exact ⟨0, by omega, rfl⟩
  case round =>
    obtain ⟨k, hk, rfl⟩ := hrel
    by_cases hlt : k < n
    · obtain ⟨b, off, rfl, hb, hc⟩ := HR.out (by omega)
      have hx := hc k hlt
      have ho := HO.out k hlt
      have hne : ¬ b = w.heap.size := by omega
      clear hc
      generalize f k = x at *
      rcases ho with h0 | h1
      · subst h0
        go_wp2_with fail
        go_round
        case rel => exact ⟨k + 1, by omega, by go_num⟩
        case measure => simp [intOf]; omega
      · subst h1
        go_wp2_with fail
        go_round
        case rel => exact ⟨k + 1, by omega, by go_num⟩
        case measure => simp [intOf]; omega
    · go_wp2_with fail
      exact bodyPost_ret (v := .agg #[.int .i64 0, .int .i64 0]) (by simp [results, Tryd.results39, go_sem]) rfl ⟨rfl, by go_grown⟩

set_option maxHeartbeats 400000 in
theorem bits_bad (n c i : Nat) (A : Option Addr) (f : Nat → Int) (w : World) (hn : n ≤ 2000) (hi : i < n) (hR : Row w A n f) (hok : ∀ j, j < i → OkBit (f j)) (hbad : ¬ OkBit (f i)) :
    Calls Tryd.prog 39 #[.slice A n c] w fun e w' => e = .returned (.agg #[.int .i64 3, .int .i64 i]) ∧ Below w.heap.size w w' := by
  have HR := Lib.hid hR
  have HO := Lib.hid hok
  have HB := Lib.hid hbad
  clear hR hok hbad
  go_enter Tryd.func39, Tryd.ntmps39
  go_wp2_with fail
  go_loop [3, 4, 11] (fun v3 v4 v11 => ∃ k : Nat, k ≤ i ∧ v11 = .int .i64 k) (fun _ _ v11 => n - (intOf v11).toNat)
  case atStart => exact ⟨0, by omega, rfl⟩
  case round =>
    obtain ⟨k, hk, rfl⟩ := hrel
    obtain ⟨b, off, rfl, hb, hc⟩ := HR.out (by omega)
    have hx := hc k (by omega)
    have hne : ¬ b = w.heap.size := by omega
    clear hc
    by_cases hlt : k < i
    · have ho := HO.out k hlt
      generalize f k = x at *
      rcases ho with h0 | h1
      · subst h0
        go_wp2_with fail
        go_round
        case rel => exact ⟨k + 1, by omega, by go_num⟩
        case measure => simp [intOf]; omega
      · subst h1
        go_wp2_with fail
        go_round
        case rel => exact ⟨k + 1, by omega, by go_num⟩
        case measure => simp [intOf]; omega
    · obtain rfl : k = i := by omega
      have hb := HB.out
      generalize f k = x at *
      have hx2 : x < 0 ∨ (¬ x < 0 ∧ 1 < x) := by
        unfold OkBit at hb
        by_cases h : x < 0
        · exact .inl h
        · exact .inr ⟨h, by omega⟩
      clear hb HB
      rcases hx2 with h | ⟨h, h'⟩
      all_goals
        go_wp2_with fail
        refine (fault_any 3 (k : Int) _).mono ?_
        rintro e w1 ⟨rfl, hb1⟩
        have hz : w.heap.size < w1.heap.size := by have := hb1.size; simp at this; omega
        have c0 := (hb1.cell (p := ⟨w.heap.size, 0, none⟩) (by simp))
        have c1 := (hb1.cell (p := ⟨w.heap.size, 1, none⟩) (by simp))
        have f0 := (hb1.frozen (p := ⟨w.heap.size, 0, none⟩) (by simp))
        have f1 := (hb1.frozen (p := ⟨w.heap.size, 1, none⟩) (by simp))
        have HB := Lib.hid hb1
        clear hb1
        simp [go_sem] at c0 c1 f0 f1
        go_wp2_with fail
        exact bodyPost_ret (v := .agg #[.int .i64 3, .int .i64 k]) (by simp [results, Tryd.results39, go_sem, c0, c1]) rfl ⟨rfl, ((((Below.refl _ _).alloc (Nat.le_refl _) _).trans (HB.out.mono (by simp))).setCell (Nat.le_refl _) _).setCell (Nat.le_refl _) _⟩

/-- What the closure 'short' comes to. -/
def shortS (ok : Bool) (code at_ : Int) (n : Nat) : Value := if code = 0 ∧ ok = false then .agg #[.int .i64 9, .int .i64 n] else .agg #[.int .i64 code, .int .i64 at_]
/-- What the closure 'limits' comes to. -/
def limitsS (ok : Bool) (code at_ : Int) (n : Nat) : Value := if code = 0 ∧ ok = false then .agg #[.int .i64 3, .int .i64 n] else .agg #[.int .i64 code, .int .i64 at_]

set_option maxHeartbeats 400000 in
theorem short_any (ok : Bool) (code at_ : Int) (b n c : Nat) (A : Option Addr) (w : World) (hlt : b < w.heap.size) (hs : w.cell? ⟨b, 0, none⟩ = some (.slice A n c)) (x y : Int) (hxy : Hid (shortS ok code at_ n = .agg #[.int .i64 x, .int .i64 y])) :
    Calls Tryd.prog 40 #[.bool ok, .agg #[.int .i64 code, .int .i64 at_], .pointer (some ⟨b, 0, none⟩)] w fun e w' => e = .returned (.agg #[.int .i64 x, .int .i64 y]) ∧ Below w.heap.size w w' := by
  have n1 : ¬ b = w.heap.size := by omega
  have n2 : ¬ b = w.heap.size + 1 := by omega
  have hxy := hxy.out
  unfold shortS at hxy
  by_cases hc : code = 0 ∧ ok = false
  · rw [if_pos hc] at hxy
    injection hxy with hxy
    obtain ⟨rfl, rfl⟩ : (9 : Int) = x ∧ (n : Int) = y := by simpa using hxy
    obtain ⟨rfl, rfl⟩ := hc
    clear hxy
    go_enter Tryd.func40, Tryd.ntmps40
    go_wp2_with fail
    refine (fault_any 9 (n : Int) _).mono ?_
    rintro e w1 ⟨rfl, hb1⟩
    have hz : w.heap.size + 1 < w1.heap.size := by have := hb1.size; simp at this; omega
    have c0 := (hb1.cell (p := ⟨w.heap.size + 1, 0, none⟩) (by simp))
    have c1 := (hb1.cell (p := ⟨w.heap.size + 1, 1, none⟩) (by simp))
    have f0 := (hb1.frozen (p := ⟨w.heap.size + 1, 0, none⟩) (by simp))
    have f1 := (hb1.frozen (p := ⟨w.heap.size + 1, 1, none⟩) (by simp))
    have HB := Lib.hid hb1
    clear hb1
    simp [go_sem] at c0 c1 f0 f1
    go_wp2_with fail
    exact bodyPost_ret (v := .agg #[.int .i64 9, .int .i64 n]) (by simp [results, Tryd.results40, go_sem, c0, c1]) rfl ⟨rfl, (((((Below.refl _ _).alloc (Nat.le_refl _) _).alloc (by simp) _).trans (HB.out.mono (by simp; omega))).setCell (by simp) _).setCell (by simp) _⟩
  · rw [if_neg hc] at hxy
    injection hxy with hxy
    obtain ⟨rfl, rfl⟩ : code = x ∧ at_ = y := by simpa using hxy
    clear hxy
    have hc2 : (code == 0) = false ∨ ((code == 0) = true ∧ ok = true) := by
      by_cases h : code = 0
      · right
        cases ok
        · exact absurd ⟨h, rfl⟩ hc
        · exact ⟨by simpa using h, rfl⟩
      · left; simpa using h
    clear hc
    rcases hc2 with h | ⟨h, rfl⟩
    all_goals
      go_enter Tryd.func40, Tryd.ntmps40
      go_wp2_with fail
      exact bodyPost_ret (v := .agg #[.int .i64 code, .int .i64 at_]) (by simp [results, Tryd.results40, go_sem]) rfl ⟨rfl, by go_grown⟩

set_option maxHeartbeats 400000 in
theorem limits_any (ok : Bool) (code at_ : Int) (g b n c : Nat) (A : Option Addr) (w : World) (hlt : b < w.heap.size) (hs : w.cell? ⟨b, 0, none⟩ = some (.slice A n c)) (hlg : g < w.heap.size) (hg0 : w.cell? ⟨g, 0, none⟩ = some (.int .i64 code)) (hg1 : w.cell? ⟨g, 1, none⟩ = some (.int .i64 at_)) (x y : Int) (hxy : Hid (limitsS ok code at_ n = .agg #[.int .i64 x, .int .i64 y])) :
    Calls Tryd.prog 42 #[.bool ok, .pointer (some ⟨g, 0, none⟩), .pointer (some ⟨b, 0, none⟩)] w fun e w' => e = .returned (.agg #[.int .i64 x, .int .i64 y]) ∧ Below w.heap.size w w' := by
  have n1 : ¬ b = w.heap.size := by omega
  have n2 : ¬ g = w.heap.size := by omega
  have hxy := hxy.out
  unfold limitsS at hxy
  by_cases hc : code = 0 ∧ ok = false
  · rw [if_pos hc] at hxy
    injection hxy with hxy
    obtain ⟨rfl, rfl⟩ : (3 : Int) = x ∧ (n : Int) = y := by simpa using hxy
    obtain ⟨rfl, rfl⟩ := hc
    clear hxy
    go_enter Tryd.func42, Tryd.ntmps42
    go_wp2_with fail
    refine (fault_any 3 (n : Int) _).mono ?_
    rintro e w1 ⟨rfl, hb1⟩
    have hz : w.heap.size < w1.heap.size := by have := hb1.size; simp at this; omega
    have c0 := (hb1.cell (p := ⟨w.heap.size, 0, none⟩) (by simp))
    have c1 := (hb1.cell (p := ⟨w.heap.size, 1, none⟩) (by simp))
    have f0 := (hb1.frozen (p := ⟨w.heap.size, 0, none⟩) (by simp))
    have f1 := (hb1.frozen (p := ⟨w.heap.size, 1, none⟩) (by simp))
    have HB := Lib.hid hb1
    clear hb1
    simp [go_sem] at c0 c1 f0 f1
    go_wp2_with fail
    exact bodyPost_ret (v := .agg #[.int .i64 3, .int .i64 n]) (by simp [results, Tryd.results42, go_sem, c0, c1]) rfl ⟨rfl, ((((Below.refl _ _).alloc (Nat.le_refl _) _).trans (HB.out.mono (by simp))).setCell (Nat.le_refl _) _).setCell (Nat.le_refl _) _⟩
  · rw [if_neg hc] at hxy
    injection hxy with hxy
    obtain ⟨rfl, rfl⟩ : code = x ∧ at_ = y := by simpa using hxy
    clear hxy
    have hc2 : (code == 0) = false ∨ ((code == 0) = true ∧ ok = true) := by
      by_cases h : code = 0
      · right
        cases ok
        · exact absurd ⟨h, rfl⟩ hc
        · exact ⟨by simpa using h, rfl⟩
      · left; simpa using h
    clear hc
    rcases hc2 with h | ⟨h, rfl⟩
    all_goals
      go_enter Tryd.func42, Tryd.ntmps42
      go_wp2_with fail
      exact bodyPost_ret (v := .agg #[.int .i64 code, .int .i64 at_]) (by simp [results, Tryd.results42, go_sem]) rfl ⟨rfl, by go_grown⟩

theorem ints_same (x : Int) (w : World) :
    Calls Tryd.prog 50 #[.int .i64 x, .int .i64 x] w fun e w' => e = .returned (.bool true) ∧ w' = w := by
  have z : (x == x) = true := by simp
  go_enter Tryd.func50, Tryd.ntmps50
  go_wp2_with fail
  go_ret
  exact ⟨rfl, rfl⟩
end Go.Proofs.YtjjfkidddjcdcaaDoor

namespace Go.Proofs.YtjjfkidddjcdcaaDoor
open Go.ChangeShapes Go.WideShapes Go.ChangeAt Go.RowKit

/-- What lies in a lent list and its room: f n times, then the mark. -/
def lentF (f : Nat → Int) (n : Nat) (m : Int) : Nat → Int := fun j => if j < n then f j else m

theorem Row.cut {w : World} {A : Option Addr} {n k : Nat} {f : Nat → Int} (h : Row w A n f) (hk : k ≤ n) : Row w A k f := fun h0 => by
  obtain ⟨b, off, e, hb, hc⟩ := h (by omega)
  exact ⟨b, off, e, hb, fun j hj => hc j (by omega)⟩
theorem Row.same {w : World} {A : Option Addr} {n : Nat} {f g : Nat → Int} (h : Row w A n f) (hfg : ∀ j, j < n → f j = g j) : Row w A n g := fun h0 => by
  obtain ⟨b, off, e, hb, hc⟩ := h h0
  exact ⟨b, off, e, hb, fun j hj => by rw [← hfg j hj]; exact hc j hj⟩
theorem Row.add {w : World} {n : Nat} {ad : Addr} {f : Nat → Int} (h : Row w (some ad) n f) : ∀ j u, ((List.range n).map fun j : Nat => Value.int .i64 (f j))[j]? = some u → w.cell? (ad.add j) = some u := by
  intro j u hu
  rw [List.getElem?_map] at hu
  by_cases hj : j < n
  · rw [List.getElem?_range hj] at hu
    injection hu with hu
    obtain ⟨b, off, e, hb, hc⟩ := h (by omega)
    injection e with e
    subst e
    rw [← hu, ← hc j hj]
    by_cases h0 : j = 0 <;> simp [Addr.add, h0]
  · rw [List.getElem?_eq_none (by simpa using hj)] at hu
    cases hu
theorem Row.of_own {w : World} {B N c g : Nat} {f : Nat → Int} (h : w.ownsRow B 3 1 (.slice (some ⟨g, 0, none⟩) N c) N ((List.range N).map fun j => .int .i64 (f j))) : Row w (some ⟨g, 0, none⟩) N f := fun hN => by
  rcases h.2 with ⟨h0, _⟩ | ⟨D, c', cur, hv, hB, hw, h1, _, h2, h3⟩
  · cases h0
  · injection hv with e1 e2 e3
    injection e1 with e1
    injection e1 with e1
    subst e1
    refine ⟨g, 0, rfl, ?_, fun j hj => ?_⟩
    · rcases Nat.lt_or_ge g w.heap.size with h | h
      · exact h
      · rw [Array.getElem?_eq_none h] at hw; cases hw
    · have hW : Whole w g 3 cur := hw
      have e : cur.toList[j]? = (cur.toList.take (N * 1))[j]? := by rw [List.getElem?_take, if_pos (by omega)]
      rw [Nat.zero_add, hW.cell, ← Array.getElem?_toList, e, h3, List.getElem?_map, List.getElem?_range hj]
      rfl

theorem lent_list (f : Nat → Int) (n : Nat) (m : Int) : ((List.range n).map fun j : Nat => Value.int .i64 (f j)) ++ [Value.int .i64 m, Value.int .i64 m, Value.int .i64 m] = (List.range (n + 3)).map fun j : Nat => Value.int .i64 (lentF f n m j) := by
  apply List.ext_getElem
  · simp
  · intro i h1 h2
    simp at h1 h2
    by_cases h : i < n
    · simp [lentF, h]
    · obtain ⟨d, rfl⟩ : ∃ d, i = n + d := ⟨i - n, by omega⟩
      have e1 : ¬ n + d < n := by omega
      simp [lentF]
      rcases d with _ | _ | _ | d
      · simp
      · simp; intro h; omega
      · simp; intro h; omega
      · omega

set_option maxRecDepth 100000 in
set_option maxHeartbeats 2000000 in
theorem lend_any (n c : Nat) (A : Option Addr) (f : Nat → Int) (m : Int) (w : World) (hn : n ≤ 3000) (hR : Row w A n f) (hnil : A = none → n = 0 ∧ c = 0) :
    Calls Tryd.prog 38 #[.slice A n c, .int .i64 m] w fun e w' => e = .returned (.slice (some ⟨w.heap.size, 0, none⟩) n (n + 3)) ∧ Below w.heap.size w w' ∧ Row w' (some ⟨w.heap.size, 0, none⟩) (n + 3) (lentF f n m) := by
  have HR := Lib.hid hR
  have HN := Lib.hid hnil
  obtain ⟨i0, hi, hz0, hz1, hz2⟩ : ∃ i, Tryd.prog.info? 3 = some i ∧ i.zero = some (.int .i64 0) ∧ i.size = 1 ∧ i.bytes = 8 := ⟨_, rfl, rfl, rfl, rfl⟩
  have HI := Lib.hid hi
  have HZ0 := Lib.hid hz0
  have HZ1 := Lib.hid hz1
  have HZ2 := Lib.hid hz2
  clear hR hnil hi hz0 hz1 hz2
  go_enter Tryd.func38, Tryd.ntmps38
  go_wp2_with (at_make; refine wpList_make_own _ rfl _ _ 23 rfl w.heap.size 3 i0 (.int .i64 0) 1 Tryd.underlying23 HI.out HZ0.out HZ1.out _ _ _ (n + 3) rfl rfl (by omega) (by rw [HZ2.out]; omega) (by unfold maxLen; omega) (Nat.le_refl _) ?_)
  intro w0 hown0 hgrow0
  have hb0 : Below w.heap.size w w0 := (Below.refl _ _).grown hgrow0 (Nat.le_refl _) (fun q hq => by cases hq)
  have HR0 := Lib.hid (HR.out.below hb0)
  have HB0 := Lib.hid hb0
  have hsz0 := hb0.size
  clear hb0 hgrow0
  go_wp2_with (at_builtin; refine wpList_append_fits_any _ rfl _ _ 23 rfl w.heap.size 3 i0 1 Tryd.underlying23 HI.out HZ1.out w.heap.size 0 (n + 3) _ rfl hown0 _ _ _ ((List.range n).map fun j : Nat => Value.int .i64 (f j)) rfl (by simp) ?c1 ?c2 ?c3 (by omega) ?_)
  case c1 => exact HN.out
  case c2 => intro ad had; subst had; exact HR0.out.add
  case c3 => intro u hu; simp at hu; obtain ⟨_, _, rfl⟩ := hu; rfl
  intro w1 hown1 hgrow1
  have hb1 : Below w.heap.size w w1 := HB0.out.trans (below_of_grown hgrow1 _ (Nat.le_refl _) hsz0)
  have hsz1 := hb1.size
  have HB1 := Lib.hid hb1
  clear hb1 hgrow1 hown0
  go_wp2_with (at_builtin; refine wpList_append_fits_any _ rfl _ _ 23 rfl w.heap.size 3 i0 1 Tryd.underlying23 HI.out HZ1.out w.heap.size n (n + 3) _ rfl (hown1.alloc _) (some ⟨w1.heap.size, 0, none⟩) 3 3 [.int .i64 m, .int .i64 m, .int .i64 m] rfl rfl ?c1 ?c2 ?c3 (by omega) ?_)
  case c1 => intro h; cases h
  case c2 =>
    intro ad had j u hj
    injection had with had
    subst had
    match j, hj with
    | 0, hj => simp at hj; subst hj; simp [Addr.add]
    | 1, hj => simp at hj; subst hj; simp [Addr.add]
    | 2, hj => simp at hj; subst hj; simp [Addr.add]
  case c3 => intro u hu; simp at hu; subst hu; rfl
  intro w2 hown2 hgrow2
  have hb2 : Below w.heap.size w w2 := (HB1.out.alloc hsz1 _).trans (below_of_grown hgrow2 _ (Nat.le_refl _) (by simp; omega))
  have HB2 := Lib.hid hb2
  rw [lent_list] at hown2
  have HRow := Lib.hid (Row.of_own hown2)
  clear hown1 hown2 hgrow2 hb2
  go_wp2_with fail
  go_ret
  exact ⟨rfl, HB2.out, HRow.out⟩
end Go.Proofs.YtjjfkidddjcdcaaDoor

namespace Go.Proofs.YtjjfkidddjcdcaaDoor
open Go.ChangeShapes Go.WideShapes Go.ChangeAt Go.RowKit

set_option maxRecDepth 100000 in
theorem lists_same (n c1 c2 : Nat) (A1 A2 : Option Addr) (f : Nat → Int) (w : World) (h1 : Row w A1 n f) (h2 : Row w A2 n f) (hn : n ≤ 1000000) :
    Calls Tryd.prog 49 #[.slice A1 n c1, .slice A2 n c2, .func (.func 50) #[] #[]] w fun e w' => e = .returned (.bool true) ∧ Below w.heap.size w w' := by
  have H1 := Lib.hid h1
  have H2 := Lib.hid h2
  have z : ((n : Int) != (n : Int)) = false := by simp
  clear h1 h2
  go_enter Tryd.func49, Tryd.ntmps49
  go_wp2_with fail
  go_loopg [15] n (fun gk v15 wr => ∃ k : Nat, gk + k = n ∧ v15 = .int .i64 (k : Nat) ∧ Below w.heap.size w wr)
  case atStart => exact ⟨0, by omega, rfl, Below.refl _ _⟩
  case round =>
    obtain ⟨k, hk, rfl, hbe⟩ := hrel
    by_cases hlt : k < n
    · obtain ⟨gk, rfl⟩ : ∃ g', gk = g' + 1 := ⟨gk - 1, by omega⟩
      obtain ⟨b1, o1, rfl, hb1, hc1⟩ := (H1.out.below hbe) (by omega)
      obtain ⟨b2, o2, rfl, hb2, hc2⟩ := (H2.out.below hbe) (by omega)
      have x1 := hc1 k hlt
      have x2 := hc2 k hlt
      have HBE := Lib.hid hbe
      clear hc1 hc2 hbe
      generalize f k = x at *
      go_wp2_with fail
      go_quiet ((go_at_call 50; exact Calls.quiet_of_same (ints_same _ _)))
      go_wp2_with fail
      go_roundg gk
      case measure => omega
      case rel => exact ⟨k + 1, by omega, by go_num, below_drewN HBE.out _⟩
    · have HBE := Lib.hid hbe
      clear hbe
      go_wp2_with fail
      go_ret
      exact ⟨rfl, HBE.out⟩

theorem float_self (b : Nat) (hb : b < 18446744073709551616) (hn : nanB b = false) : (FloatKind.f64.format.order b b == some .eq) = true := by
  have h := neq_self b hb
  rw [hn] at h
  have : ∀ o : Option Ordering, (o == some .eq) = !(o != some .eq) := fun o => by simp [bne]
  rw [this, h]
  rfl

theorem floats_same (b : Nat) (w : World) (hb : b < 18446744073709551616) (hn : nanB b = false) :
    Calls Tryd.prog 53 #[.float .f64 b, .float .f64 b] w fun e w' => e = .returned (.bool true) ∧ w' = w := by
  have z := float_self b hb hn
  clear hn
  go_enter Tryd.func53, Tryd.ntmps53
  go_wp2_with fail
  go_ret
  exact ⟨rfl, rfl⟩

set_option maxRecDepth 100000 in
set_option maxHeartbeats 2000000 in
theorem still_same (n c g : Nat) (A : Option Addr) (f : Nat → Int) (w : World) (hn : n ≤ 3000) (h1 : Row w (some ⟨g, 0, none⟩) (n + 3) (lentF f n (-9))) (h2 : Row w A n f) :
    Calls Tryd.prog 54 #[.slice (some ⟨g, 0, none⟩) n (n + 3), .slice A n c, .int .i64 (-9), .func (.func 50) #[] #[]] w fun e w' => e = .returned (.bool true) ∧ w' = w := by
  obtain ⟨b, o, e, hb, hc⟩ := h1 (by omega)
  injection e with e
  injection e with e1 e2
  subst e1 e2
  have HC := Lib.hid hc
  have H2 := Lib.hid h2
  clear h1 h2 hc
  go_enter Tryd.func54, Tryd.ntmps54
  go_wp2_with fail
  go_loopg [19] (n + 3) (fun gk v19 wr => ∃ k : Nat, gk + k = n + 3 ∧ v19 = .int .i64 (k : Nat) ∧ wr = w)
  case atStart => exact ⟨0, by omega, rfl, rfl⟩
  case round =>
    obtain ⟨k, hk, rfl, rfl⟩ := hrel
    by_cases hlt : k < n + 3
    · obtain ⟨gk, rfl⟩ : ∃ g', gk = g' + 1 := ⟨gk - 1, by omega⟩
      have x1 := HC.out k hlt
      rw [Nat.zero_add] at x1
      by_cases hkn : k < n
      · have e1 : lentF f n (-9) k = f k := if_pos hkn
        rw [e1] at x1
        obtain ⟨b2, o2, rfl, hb2, hc2⟩ := H2.out (by omega)
        have x2 := hc2 k hkn
        clear hc2 e1
        generalize f k = x at *
        go_wp2_with (go_at_call 50; refine (ints_same x _).mono ?_; rintro e w2 ⟨rfl, rfl⟩)
        go_roundg gk
        case measure => omega
        case rel => exact ⟨k + 1, by omega, by go_num, rfl⟩
      · have e1 : lentF f n (-9) k = -9 := if_neg hkn
        rw [e1] at x1
        have hge : n ≤ k := by omega
        clear e1
        go_wp2_with (go_at_call 50; refine (ints_same (-9) _).mono ?_; rintro e w2 ⟨rfl, rfl⟩)
        go_roundg gk
        case measure => omega
        case rel => exact ⟨k + 1, by omega, by go_num, rfl⟩
    · go_wp2_with fail
      go_ret
      exact ⟨rfl, rfl⟩
end Go.Proofs.YtjjfkidddjcdcaaDoor

namespace Go.Proofs.YtjjfkidddjcdcaaDoor
open Go.ChangeShapes Go.WideShapes Go.ChangeAt Go.RowKit

/-- What stays through the law: the bits, their lent copy, what was said of them. -/
structure Says (w0 : World) (b7 b10 go n c : Nat) (A : Option Addr) (f : Nat → Int) (code at_ : Int) (W : World) : Prop where
  c7 : W.cell? ⟨b7, 0, none⟩ = some (.slice A n c)
  c10 : W.cell? ⟨b10, 0, none⟩ = some (.int .i64 code)
  d10 : W.cell? ⟨b10, 1, none⟩ = some (.int .i64 at_)
  l7 : b7 < W.heap.size
  l10 : b10 < W.heap.size
  lgo : go < W.heap.size
  row : Row W A n f
  own : Row W (some ⟨go, 0, none⟩) (n + 3) (lentF f n (-9))
  glob : Glob W
  be : Below w0.heap.size w0 W
  h7 : w0.heap.size ≤ b7
  h10 : w0.heap.size ≤ b10
  hgo : w0.heap.size ≤ go
  far : 0 < n → ∀ a, A = some a → a.block < w0.heap.size
  h1 : 1 < w0.heap.size

theorem Says.below {w0 W W' : World} {b7 b10 go n c : Nat} {A : Option Addr} {f : Nat → Int} {code at_ : Int} (h : Says w0 b7 b10 go n c A f code at_ W) (hb : Below W.heap.size W W') : Says w0 b7 b10 go n c A f code at_ W' :=
  ⟨(hb.cell (p := ⟨b7, 0, none⟩) h.l7).trans h.c7, (hb.cell (p := ⟨b10, 0, none⟩) h.l10).trans h.c10, (hb.cell (p := ⟨b10, 1, none⟩) h.l10).trans h.d10, Nat.lt_of_lt_of_le h.l7 hb.size, Nat.lt_of_lt_of_le h.l10 hb.size, Nat.lt_of_lt_of_le h.lgo hb.size,
    h.row.below hb, h.own.below hb, h.glob.below hb, h.be.trans (hb.mono h.be.size), h.h7, h.h10, h.hgo, h.far, h.h1⟩
theorem Says.ownRow {w0 W : World} {b7 b10 go n c : Nat} {A : Option Addr} {f : Nat → Int} {code at_ : Int} (h : Says w0 b7 b10 go n c A f code at_ W) : Row W (some ⟨go, 0, none⟩) n f :=
  (h.own.cut (k := n) (by omega)).same fun j hj => if_pos hj

/-- A block that holds a fault, beside what stays. -/
structure Fault (w0 : World) (b7 b10 go b : Nat) (x y : Int) (W : World) : Prop where
  cell : Whole W b 26 #[.int .i64 x, .int .i64 y]
  n7 : b ≠ b7
  n10 : b ≠ b10
  ngo : b ≠ go
  ge : w0.heap.size ≤ b
theorem Fault.below {w0 W W' : World} {b7 b10 go b : Nat} {x y : Int} (h : Fault w0 b7 b10 go b x y W) (hb : Below W.heap.size W W') : Fault w0 b7 b10 go b x y W' :=
  ⟨h.cell.below hb h.cell.lt, h.n7, h.n10, h.ngo, h.ge⟩

theorem says_new {w0 W W5 : World} {b7 b10 go n c : Nat} {A : Option Addr} {f : Nat → Int} {code at_ : Int} (h : Says w0 b7 b10 go n c A f code at_ W) (hb : Below W.heap.size W W5) (x y : Int) :
    Says w0 b7 b10 go n c A f code at_ (W5.alloc (Obj.cells #[.int .i64 x, .int .i64 y] 26)) ∧ Fault w0 b7 b10 go W5.heap.size x y (W5.alloc (Obj.cells #[.int .i64 x, .int .i64 y] 26)) := by
  have h5 := h.below hb
  have hn := (Below.refl W5.heap.size W5).alloc (Nat.le_refl _) (Obj.cells #[.int .i64 x, .int .i64 y] 26)
  exact ⟨h5.below hn, Whole.new _ _ _ _ rfl, by have := h5.l7; omega, by have := h5.l10; omega, by have := h5.lgo; omega, h5.be.size⟩

/-- A fault is stored where another stood. -/
def putFault (W : World) (b : Nat) (x y : Int) : World := (W.setCell ⟨b, 0, none⟩ (.int .i64 x)).setCell ⟨b, 1, none⟩ (.int .i64 y)
theorem grown_fault (W : World) (b : Nat) (x y : Int) : W.grownBy (putFault W b x y) (some b) := grown_set (grown_set (grown_refl _ _) 0 _) 1 _

theorem says_set {w0 W : World} {b7 b10 go n c b : Nat} {A : Option Addr} {f : Nat → Int} {code at_ x y : Int} (h : Says w0 b7 b10 go n c A f code at_ W) (k : Fault w0 b7 b10 go b x y W) (x' y' : Int) :
    Says w0 b7 b10 go n c A f code at_ (putFault W b x' y') ∧ Fault w0 b7 b10 go b x' y' (putFault W b x' y') := by
  have hg := grown_fault W b x' y'
  have hc : ∀ b' o, b' < W.heap.size → b' ≠ b → (putFault W b x' y').cell? ⟨b', o, none⟩ = W.cell? ⟨b', o, none⟩ := fun b' o hl hne =>
    World.cell?_of_block (a := ⟨b', o, none⟩) (hg.block b' hl (fun e => by injection e with e; exact hne e))
  refine ⟨⟨(hc b7 0 h.l7 k.n7.symm).trans h.c7, (hc b10 0 h.l10 k.n10.symm).trans h.c10, (hc b10 1 h.l10 k.n10.symm).trans h.d10, Nat.lt_of_lt_of_le h.l7 hg.size, Nat.lt_of_lt_of_le h.l10 hg.size, Nat.lt_of_lt_of_le h.lgo hg.size,
    h.row.grown hg (fun h0 a ha => by have := h.far h0 a ha; have := k.ge; omega), h.own.grown hg (fun _ a ha => by injection ha with ha; subst ha; exact k.ngo.symm), ?_, h.be.trans (below_of_grown hg _ k.ge h.be.size), h.h7, h.h10, h.hgo, h.far, h.h1⟩, ?_, k.n7, k.n10, k.ngo, k.ge⟩
  · have h1 := h.h1
    have h2 := k.ge
    have h3 := h.glob.sz
    exact ⟨(hc 1 0 h3 (by omega)).trans h.glob.g0, (hc 1 1 h3 (by omega)).trans h.glob.g1, Nat.lt_of_lt_of_le h3 hg.size⟩
  · exact (k.cell.set 0 (.int .i64 x')).set 1 (.int .i64 y')
theorem Fault.set {w0 W : World} {b7 b10 go b b2 : Nat} {u v : Int} (h : Fault w0 b7 b10 go b2 u v W) (hne : b2 ≠ b) (x' y' : Int) : Fault w0 b7 b10 go b2 u v (putFault W b x' y') :=
  ⟨h.cell.grown (grown_fault W b x' y') (fun e => by injection e with e; exact hne e), h.n7, h.n10, h.ngo, h.ge⟩

def FourCells (b19 : Nat) (g1 g2 : Int) (b13 : Nat) (c1 a1 : Int) (w' : World) : Prop := w'.cell? ⟨b19, 0, none⟩ = some (.int .i64 g1) ∧ w'.cell? ⟨b19, 1, none⟩ = some (.int .i64 g2) ∧ w'.cell? ⟨b13, 0, none⟩ = some (.int .i64 c1) ∧ w'.cell? ⟨b13, 1, none⟩ = some (.int .i64 a1)
theorem FourCells.of {w0 W : World} {b7 b10 go b19 b13 : Nat} {g1 g2 c1 a1 : Int} (h : Fault w0 b7 b10 go b19 g1 g2 W) (k : Fault w0 b7 b10 go b13 c1 a1 W) : FourCells b19 g1 g2 b13 c1 a1 W := ⟨h.cell.cell 0, h.cell.cell 1, k.cell.cell 0, k.cell.cell 1⟩

def FiveCells (b19 : Nat) (g1 g2 : Int) (b10 : Nat) (code at_ : Int) (b7 n c : Nat) (A : Option Addr) (w' : World) : Prop := w'.cell? ⟨b19, 0, none⟩ = some (.int .i64 g1) ∧ w'.cell? ⟨b19, 1, none⟩ = some (.int .i64 g2) ∧ w'.cell? ⟨b10, 0, none⟩ = some (.int .i64 code) ∧ w'.cell? ⟨b10, 1, none⟩ = some (.int .i64 at_) ∧ w'.cell? ⟨b7, 0, none⟩ = some (.slice A n c)
theorem FiveCells.of {w0 W : World} {b7 b10 go b19 n c : Nat} {A : Option Addr} {f : Nat → Int} {g1 g2 code at_ : Int} (h : Fault w0 b7 b10 go b19 g1 g2 W) (k : Says w0 b7 b10 go n c A f code at_ W) : FiveCells b19 g1 g2 b10 code at_ b7 n c A W := ⟨h.cell.cell 0, h.cell.cell 1, k.c10, k.d10, k.c7⟩

theorem ways4 {a b c d : Prop} [Decidable a] [Decidable b] [Decidable c] [Decidable d] {l : Bool} (h : decide (a ∧ b ∧ c ∧ d) = l) :
    (a ∧ b ∧ c ∧ d ∧ l = true) ∨ (¬ a ∧ l = false) ∨ (a ∧ ¬ b ∧ l = false) ∨ (a ∧ b ∧ ¬ c ∧ l = false) ∨ (a ∧ b ∧ c ∧ ¬ d ∧ l = false) := by
  subst h
  by_cases k1 : a <;> by_cases k2 : b <;> by_cases k3 : c <;> by_cases k4 : d <;> simp [k1, k2, k3, k4]
theorem ways2 {a b : Prop} [Decidable a] [Decidable b] {l : Bool} (h : decide (a ∧ b) = l) : (a ∧ b ∧ l = true) ∨ (¬ a ∧ l = false) ∨ (a ∧ ¬ b ∧ l = false) := by
  subst h
  by_cases k1 : a <;> by_cases k2 : b <;> simp [k1, k2]
end Go.Proofs.YtjjfkidddjcdcaaDoor
