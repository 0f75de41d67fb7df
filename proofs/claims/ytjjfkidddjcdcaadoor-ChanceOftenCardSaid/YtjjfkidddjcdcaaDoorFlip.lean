/- Proved here: contracts of package chance's Flip and Pick at this program. Conditions: as each theorem says. -/
import Derived.Test.YtjjfkidddjcdcaaDoorTold
namespace Go.Proofs.YtjjfkidddjcdcaaDoor
open Go.ChangeShapes Go.WideShapes Go.ChangeAt Go.RowKit

/-- What is known of a new block behind a call that leaves what was there. -/
theorem kept_cell {w w' : World} (hb : Below w.heap.size w w') {g i : Nat} {v : Value} (hg : g < w.heap.size) (h : w.cell? ⟨g, i, none⟩ = some v) : w'.cell? ⟨g, i, none⟩ = some v := (hb.cell (p := ⟨g, i, none⟩) hg).trans h

/-- What Flip tells, of 0 < p < q. -/
def toldS (zero : Value) (res : Value × Nat × Bool) (n : Nat) : Value :=
  if res.2.2 then .tuple #[zero, .int .i64 0, .agg #[.int .i64 9, .int .i64 n]] else .tuple #[res.1, .int .i64 res.2.1, .agg #[.int .i64 0, .int .i64 0]]

/-- The result's cell behind all calls, and what was there before. -/
structure Held (w w' : World) : Prop where
  c0 : w'.cell? ⟨w.heap.size, 0, none⟩ = some (.int .i64 0)
  c1 : w'.cell? ⟨w.heap.size, 1, none⟩ = some (.int .i64 0)
  f0 : w'.frozen? ⟨w.heap.size, 0, none⟩ = false
  f1 : w'.frozen? ⟨w.heap.size, 1, none⟩ = false
  sz : w.heap.size < w'.heap.size
  be : Below w.heap.size w w'

theorem Held.new (w : World) : Held w (w.alloc (Obj.cells #[.int .i64 0, .int .i64 0] 26)) :=
  ⟨by simp [go_sem], by simp [go_sem], by simp [go_sem], by simp [go_sem], by simp, (Below.refl _ _).alloc (Nat.le_refl _) _⟩
theorem Held.below {w a b : World} (h : Held w a) (hb : Below a.heap.size a b) : Held w b :=
  ⟨kept_cell hb h.sz h.c0, kept_cell hb h.sz h.c1, (hb.frozen (p := ⟨w.heap.size, 0, none⟩) h.sz).trans h.f0, (hb.frozen (p := ⟨w.heap.size, 1, none⟩) h.sz).trans h.f1, Nat.lt_of_lt_of_le h.sz hb.size, h.be.trans (hb.mono (Nat.le_of_lt h.sz))⟩
theorem Held.alloc {w a : World} (h : Held w a) (o : Obj) : Held w (a.alloc o) := h.below ((Below.refl _ _).alloc (Nat.le_refl _) o)
theorem Held.grown {w a b : World} {t : Nat} (h : Held w a) (hb : a.grownBy b (some t)) (ht : w.heap.size < t) : Held w b := by
  have hk : b.heap[w.heap.size]? = a.heap[w.heap.size]? := hb.block _ h.sz (fun e => by injection e with e; omega)
  exact ⟨(World.cell?_of_block (a := ⟨w.heap.size, 0, none⟩) hk).trans h.c0, (World.cell?_of_block (a := ⟨w.heap.size, 1, none⟩) hk).trans h.c1, (World.frozen?_of_block (a := ⟨w.heap.size, 0, none⟩) hk).trans h.f0, (World.frozen?_of_block (a := ⟨w.heap.size, 1, none⟩) hk).trans h.f1, Nat.lt_of_lt_of_le h.sz hb.size, h.be.trans (below_of_grown hb _ (Nat.le_of_lt ht) (Nat.le_of_lt h.sz))⟩

theorem told_bool (t n c at_ : Nat) (A : Option Addr) (x s : Bool) (w : World) (h : Tape w t A n c at_ s) :
    Calls Tryd.prog 56 #[.pointer (some ⟨t, 0, none⟩), .bool x] w fun e w' => e = .returned (toldS (.bool false) (.bool x, at_, s) n) ∧ Below w.heap.size w w' := by
  cases s
  · exact told_bool_ok t n c at_ A x w h
  · exact told_bool_short t n c at_ A x w h

set_option maxHeartbeats 1000000 in
theorem flip_mid (p q : Int) (n c : Nat) (A : Option Addr) (f : Nat → Int) (w : World) (hn : n ≤ 2000) (hR : Row w A n f) (hok : ∀ j, j < n → OkBit (f j)) (hp : 0 < p) (hpq : p < q) (hq : q ≤ 1000000)
    (v s : Bool) (a : Nat) (hres : Hid (flipS f q n 0 p = (v, a, s))) (x1 : Bool) (x2 x3 x4 : Int) (hv : Hid (toldS (.bool false) (.bool v, a, s) n = .tuple #[.bool x1, .int .i64 x2, .agg #[.int .i64 x3, .int .i64 x4]])) :
    Calls Tryd.prog 10 #[.int .i64 p, .int .i64 q, .slice A n c] w fun e w' => e = .returned (.tuple #[.bool x1, .int .i64 x2, .agg #[.int .i64 x3, .int .i64 x4]]) ∧ Below w.heap.size w w' := by
  have HR := Lib.hid hR
  have HO := Lib.hid hok
  have z1 : (p == q) = false := by simp; omega
  have z2 : (p == 0) = false := by simp; omega
  clear hR hok
  go_enter Tryd.func10, Tryd.ntmps10
  go_wp2_with fail
  have H0 := Lib.hid (Held.new w)
  refine (check_ok n c A f _ hn (HR.out.below ((Below.refl _ _).alloc (Nat.le_refl _) _)) HO.out).mono ?_
  rintro e w1 ⟨rfl, hb1⟩
  have H1 := Lib.hid (H0.out.below hb1)
  have HR1 := Lib.hid ((HR.out.below ((Below.refl _ _).alloc (Nat.le_refl _) _)).below hb1)
  clear hb1 H0
  have hz : w.heap.size < w1.heap.size := H1.out.sz
  go_wp2_with fail
  have HT : Tape ((w1.alloc (Obj.cells #[Value.int IntKind.i64 0, Value.int IntKind.i64 0] 26)).alloc (Obj.cells #[Value.slice A n c, Value.int IntKind.i64 0, Value.bool false] 85)) (w1.heap.size + 1) A n c 0 false := Whole.new _ _ _ _ (by simp)
  have HR2 := Lib.hid ((HR1.out.below ((Below.refl _ _).alloc (Nat.le_refl _) (Obj.cells #[Value.int IntKind.i64 0, Value.int IntKind.i64 0] 26))).below ((Below.refl _ _).alloc (Nat.le_refl _) (Obj.cells #[Value.slice A n c, Value.int IntKind.i64 0, Value.bool false] 85)))
  have H2 := Lib.hid ((H1.out.alloc (Obj.cells #[Value.int IntKind.i64 0, Value.int IntKind.i64 0] 26)).alloc (Obj.cells #[Value.slice A n c, Value.int IntKind.i64 0, Value.bool false] 85))
  have hA : Apart A n (w1.heap.size + 1) := HR1.out.apart (by omega)
  refine (flip_any (w1.heap.size + 1) n c A f q (by omega) (by omega) (by omega) n 0 p _ (by omega) (by omega) (by omega) HT HR2.out hA _ hres).mono ?_
  rintro e w2 ⟨rfl, hTo⟩
  have H3 := Lib.hid (H2.out.grown hTo.2 (by omega))
  have HTo := Lib.hid hTo
  clear hTo HT hA H2 H1
  go_wp2_with fail
  refine (told_bool (w1.heap.size + 1) n c a A v s w2 HTo.out.1).mono ?_
  rw [hv.out]
  rintro e w3 ⟨rfl, hb3⟩
  have H4 := H3.out.below hb3
  have H5 := Lib.hid H4
  obtain ⟨c0, c1, f0, f1, sz, be⟩ := H4
  clear hb3 be H3
  go_wp2_with fail
  refine bodyPost_ret (v := .tuple #[.bool x1, .int .i64 x2, .agg #[.int .i64 x3, .int .i64 x4]]) (by simp [results, Tryd.results10, go_sem, c0, c1]) rfl ⟨rfl, (H5.out.be.setCell (Nat.le_refl _) _).setCell (Nat.le_refl _) _⟩

set_option maxHeartbeats 1000000 in
theorem flip_all (p q : Int) (n c : Nat) (A : Option Addr) (f : Nat → Int) (w : World) (hn : n ≤ 2000) (hR : Row w A n f) (hok : ∀ j, j < n → OkBit (f j)) (hpq : p = q) (hp : 1 ≤ p) (hq : q ≤ 1000000) :
    Calls Tryd.prog 10 #[.int .i64 p, .int .i64 q, .slice A n c] w fun e w' => e = .returned (.tuple #[.bool true, .int .i64 0, .agg #[.int .i64 0, .int .i64 0]]) ∧ Below w.heap.size w w' := by
  have HR := Lib.hid hR
  have HO := Lib.hid hok
  subst hpq
  have z1 : (p == p) = true := by simp
  clear hR hok
  go_enter Tryd.func10, Tryd.ntmps10
  go_wp2_with fail
  have H0 := Lib.hid (Held.new w)
  refine (check_ok n c A f _ hn (HR.out.below ((Below.refl _ _).alloc (Nat.le_refl _) _)) HO.out).mono ?_
  rintro e w1 ⟨rfl, hb1⟩
  have H1 := Lib.hid (H0.out.below hb1)
  clear hb1 H0
  have hz : w.heap.size < w1.heap.size := H1.out.sz
  go_wp2_with fail
  all_goals first | (exfalso; omega) | skip
  have HT : Tape ((w1.alloc (Obj.cells #[Value.int IntKind.i64 0, Value.int IntKind.i64 0] 26)).alloc (Obj.cells #[Value.slice A n c, Value.int IntKind.i64 0, Value.bool false] 85)) (w1.heap.size + 1) A n c 0 false := Whole.new _ _ _ _ (by simp)
  have H2 := Lib.hid ((H1.out.alloc (Obj.cells #[Value.int IntKind.i64 0, Value.int IntKind.i64 0] 26)).alloc (Obj.cells #[Value.slice A n c, Value.int IntKind.i64 0, Value.bool false] 85))
  refine (told_bool_ok (w1.heap.size + 1) n c 0 A true _ HT).mono ?_
  rintro e w3 ⟨rfl, hb3⟩
  have H4 := H2.out.below hb3
  have H5 := Lib.hid H4
  obtain ⟨c0, c1, f0, f1, sz, be⟩ := H4
  clear hb3 be HT H2 H1
  go_wp2_with fail
  exact bodyPost_ret (v := .tuple #[.bool true, .int .i64 0, .agg #[.int .i64 0, .int .i64 0]]) (by simp [results, Tryd.results10, go_sem, c0, c1]) rfl ⟨rfl, (H5.out.be.setCell (Nat.le_refl _) _).setCell (Nat.le_refl _) _⟩

set_option maxHeartbeats 1000000 in
theorem flip_none (p q : Int) (n c : Nat) (A : Option Addr) (f : Nat → Int) (w : World) (hn : n ≤ 2000) (hR : Row w A n f) (hok : ∀ j, j < n → OkBit (f j)) (hp : p = 0) (hq1 : 1 ≤ q) (hq : q ≤ 1000000) :
    Calls Tryd.prog 10 #[.int .i64 p, .int .i64 q, .slice A n c] w fun e w' => e = .returned (.tuple #[.bool false, .int .i64 0, .agg #[.int .i64 0, .int .i64 0]]) ∧ Below w.heap.size w w' := by
  have HR := Lib.hid hR
  have HO := Lib.hid hok
  subst hp
  have z1 : ((0 : Int) == q) = false := by simp; omega
  clear hR hok
  go_enter Tryd.func10, Tryd.ntmps10
  go_wp2_with fail
  have H0 := Lib.hid (Held.new w)
  refine (check_ok n c A f _ hn (HR.out.below ((Below.refl _ _).alloc (Nat.le_refl _) _)) HO.out).mono ?_
  rintro e w1 ⟨rfl, hb1⟩
  have H1 := Lib.hid (H0.out.below hb1)
  clear hb1 H0
  have hz : w.heap.size < w1.heap.size := H1.out.sz
  go_wp2_with fail
  all_goals first | (exfalso; omega) | skip
  have HT : Tape ((w1.alloc (Obj.cells #[Value.int IntKind.i64 0, Value.int IntKind.i64 0] 26)).alloc (Obj.cells #[Value.slice A n c, Value.int IntKind.i64 0, Value.bool false] 85)) (w1.heap.size + 1) A n c 0 false := Whole.new _ _ _ _ (by simp)
  have H2 := Lib.hid ((H1.out.alloc (Obj.cells #[Value.int IntKind.i64 0, Value.int IntKind.i64 0] 26)).alloc (Obj.cells #[Value.slice A n c, Value.int IntKind.i64 0, Value.bool false] 85))
  refine (told_bool_ok (w1.heap.size + 1) n c 0 A false _ HT).mono ?_
  rintro e w3 ⟨rfl, hb3⟩
  have H4 := H2.out.below hb3
  have H5 := Lib.hid H4
  obtain ⟨c0, c1, f0, f1, sz, be⟩ := H4
  clear hb3 be HT H2 H1
  go_wp2_with fail
  exact bodyPost_ret (v := .tuple #[.bool false, .int .i64 0, .agg #[.int .i64 0, .int .i64 0]]) (by simp [results, Tryd.results10, go_sem, c0, c1]) rfl ⟨rfl, (H5.out.be.setCell (Nat.le_refl _) _).setCell (Nat.le_refl _) _⟩

set_option maxHeartbeats 1000000 in
theorem flip_range (p q : Int) (n c : Nat) (A : Option Addr) (f : Nat → Int) (w : World) (hn : n ≤ 2000) (hR : Row w A n f) (hok : ∀ j, j < n → OkBit (f j)) (hbad : q < 1 ∨ 1000000 < q ∨ p < 0 ∨ q < p) :
    Calls Tryd.prog 10 #[.int .i64 p, .int .i64 q, .slice A n c] w fun e w' => e = .returned (.tuple #[.bool false, .int .i64 0, .agg #[.int .i64 3, .int .i64 n]]) ∧ Below w.heap.size w w' := by
  have HR := Lib.hid hR
  have HO := Lib.hid hok
  have HB := Lib.hid hbad
  clear hR hok hbad
  go_enter Tryd.func10, Tryd.ntmps10
  go_wp2_with fail
  have H0 := Lib.hid (Held.new w)
  refine (check_ok n c A f _ hn (HR.out.below ((Below.refl _ _).alloc (Nat.le_refl _) _)) HO.out).mono ?_
  rintro e w1 ⟨rfl, hb1⟩
  have H1 := Lib.hid (H0.out.below hb1)
  clear hb1 H0
  have hz : w.heap.size < w1.heap.size := H1.out.sz
  have H5 := Lib.hid H1.out
  obtain ⟨c0, c1, f0, f1, sz, be⟩ := H1.out
  clear be H1
  go_wp2_with fail
  all_goals first | (exfalso; have := HB.out; omega) | skip
  all_goals exact bodyPost_ret (v := .tuple #[.bool false, .int .i64 0, .agg #[.int .i64 3, .int .i64 n]]) (by simp [results, Tryd.results10, go_sem, c0, c1, hz]) rfl ⟨rfl, ((H5.out.be.setCell (Nat.le_refl _) _).setCell (Nat.le_refl _) _).alloc (by simp; omega) _⟩

/-- A refusal: of check's. -/
def Refuses (A : Option Addr) (n c : Nat) (code at_ : Int) (w : World) : Prop :=
  Calls Tryd.prog 55 #[.slice A n c] w fun e w' => e = .returned (.agg #[.int .i64 code, .int .i64 at_]) ∧ Below w.heap.size w w'

set_option maxHeartbeats 1000000 in
theorem flip_fault (p q code at_ : Int) (n c : Nat) (A : Option Addr) (w : World) (hC : Refuses A n c code at_ (w.alloc (Obj.cells #[.int .i64 0, .int .i64 0] 26))) (hcode : (code != 0) = true) :
    Calls Tryd.prog 10 #[.int .i64 p, .int .i64 q, .slice A n c] w fun e w' => e = .returned (.tuple #[.bool false, .int .i64 0, .agg #[.int .i64 code, .int .i64 at_]]) ∧ Below w.heap.size w w' := by
  have HC := Lib.hid hC
  clear hC
  go_enter Tryd.func10, Tryd.ntmps10
  go_wp2_with fail
  have H0 := Lib.hid (Held.new w)
  refine HC.out.mono ?_
  rintro e w1 ⟨rfl, hb1⟩
  have H1 := Lib.hid (H0.out.below hb1)
  clear hb1 H0
  have hz : w.heap.size < w1.heap.size := H1.out.sz
  have H5 := Lib.hid H1.out
  obtain ⟨c0, c1, f0, f1, sz, be⟩ := H1.out
  clear be H1
  go_wp2_with fail
  go_region
  go_wp2_with fail
  exact bodyPost_ret (v := .tuple #[.bool false, .int .i64 0, .agg #[.int .i64 code, .int .i64 at_]]) (by simp [results, Tryd.results10, go_sem, c0, c1, hz]) rfl ⟨rfl, (((H5.out.be.setCell (Nat.le_refl _) _).setCell (Nat.le_refl _) _).alloc (by simp; omega) _).drew⟩
end Go.Proofs.YtjjfkidddjcdcaaDoor
