/- Proved here: the closed fact 'flips' at this program. Conditions: the listed variable holds what is laid. -/
import Derived.Test.YtjjfkidddjcdcaaDoorFlips
import Derived.Deep.RegionHeld3
namespace Go.Proofs.YtjjfkidddjcdcaaDoor
open Go.ChangeShapes Go.WideShapes Go.ChangeAt Go.RowKit

theorem fault_new (a b : Int) (w : World) :
    Calls Tryd.prog 41 #[.int .i64 a, .int .i64 b] w fun e w' => e = .returned (.agg #[.int .i64 a, .int .i64 b]) ∧ Below w.heap.size w w' := by
  go_enter Tryd.func41, Tryd.ntmps41
  go_wp2_with fail
  exact bodyPost_ret (v := .agg #[.int .i64 a, .int .i64 b]) (by simp [results, Tryd.results41, go_sem]) rfl ⟨rfl, (Below.refl _ _).alloc (Nat.le_refl _) _⟩

/-- The integers of a list. -/
def nth (l : List Int) : Nat → Int := fun j => l.getD j 0

theorem flip_two (w : World) (c : Nat) (A : Option Addr) (hR : Row w A 2 (nth [0, 0])) :
    Calls Tryd.prog 10 #[.int .i64 1, .int .i64 3, .slice A 2 c] w fun e w' => e = .returned (.tuple #[.bool true, .int .i64 2, .agg #[.int .i64 0, .int .i64 0]]) ∧ Below w.heap.size w w' :=
  flip_mid 1 3 2 c A (nth [0, 0]) w (by omega) hR (fun j h => by rcases j with _ | _ | j <;> first | exact .inl rfl | omega) (by omega) (by omega) (by omega) true false 2 (by show _ = _; decide) true 2 0 0 (by show _ = _; rfl)
theorem pick_four (w : World) (c : Nat) (A : Option Addr) (hR : Row w A 4 (nth [1, 1, 1, 0])) :
    Calls Tryd.prog 11 #[.int .i64 3, .slice A 4 c] w fun e w' => e = .returned (.tuple #[.int .i64 2, .int .i64 4, .agg #[.int .i64 0, .int .i64 0]]) ∧ Below w.heap.size w w' :=
  pick_mid 3 2 4 c A (nth [1, 1, 1, 0]) w (by omega) hR (fun j h => by rcases j with _ | _ | _ | _ | j <;> first | exact .inl rfl | exact .inr rfl | omega) (by omega) (by omega) (by omega)
    (fun j h => by rcases j with _ | _ | j <;> first | decide | omega) (by show _ ≤ _; decide) 2 false 4 (by show _ = _; decide) 2 4 0 0 (by show _ = _; rfl)

/-- A world that grew by new blocks: what 'flips' holds of it. -/
structure Grew (w w' : World) : Prop where
  be : Below w.heap.size w w'
  gl : Glob w'
theorem Grew.start {w : World} (h : Glob w) : Grew w w := ⟨Below.refl _ _, h⟩
theorem Grew.below {w a b : World} (h : Grew w a) (hb : Below a.heap.size a b) : Grew w b := ⟨h.be.trans (hb.mono h.be.size), h.gl.below hb⟩
theorem Grew.alloc {w a : World} (h : Grew w a) (o : Obj) : Grew w (a.alloc o) := h.below ((Below.refl _ _).alloc (Nat.le_refl _) o)

/-- What the last line of 'flips' reads. -/
def Three (w : World) (b1 b2 b3 : Nat) (w' : World) : Prop := (w'.cell? ⟨b1, 0, none⟩ = some (.int .i64 0) ∧ w'.cell? ⟨b2, 0, none⟩ = some (.int .i64 0) ∧ w'.cell? ⟨b3, 0, none⟩ = some (.int .i64 9) ∧ w'.cell? ⟨b3, 1, none⟩ = some (.int .i64 1)) ∧ b1 < w'.heap.size ∧ b2 < w'.heap.size ∧ b3 < w'.heap.size ∧ Below w.heap.size w w'
theorem Three.below {w a b : World} {b1 b2 b3 : Nat} (h : Three w b1 b2 b3 a) (hb : Below a.heap.size a b) : Three w b1 b2 b3 b := by
  obtain ⟨⟨h1, h2, h3, h4⟩, l1, l2, l3, be⟩ := h
  exact ⟨⟨kept_cell hb l1 h1, kept_cell hb l2 h2, kept_cell hb l3 h3, kept_cell hb l3 h4⟩, Nat.lt_of_lt_of_le l1 hb.size, Nat.lt_of_lt_of_le l2 hb.size, Nat.lt_of_lt_of_le l3 hb.size, be.trans (hb.mono be.size)⟩

set_option maxRecDepth 100000 in
set_option maxHeartbeats 1000000 in
theorem flips_true (w : World) (hG : Glob w) :
    Calls Tryd.prog 9 #[] w fun e w' => e = .returned (.bool true) ∧ Below w.heap.size w w' := by
  have HG := Lib.hid (Grew.start hG)
  clear hG
  go_enter Tryd.func9, Tryd.ntmps9
  go_wp2_with fail
  refine (flip_two _ 2 _ (fun _ => ⟨w.heap.size, 0, rfl, by simp, fun j h => by rcases j with _ | _ | j <;> first | (simp [go_sem, nth]; done) | omega⟩)).mono ?_
  rintro e w1 ⟨rfl, hb1⟩
  have HG1 := Lib.hid ((HG.out.alloc _).below hb1)
  clear hb1 HG
  go_wp2_with fail
  have HG2 := Lib.hid (HG1.out.alloc (Obj.cells #[Value.int IntKind.i64 0, Value.int IntKind.i64 0] 26))
  have HF := Lib.hid (Whole.new w1 26 #[Value.int IntKind.i64 0, Value.int IntKind.i64 0] w1.heap.size rfl)
  have z1 : w1.heap.size < (w1.alloc (Obj.cells #[Value.int IntKind.i64 0, Value.int IntKind.i64 0] 26)).heap.size := by simp
  have z1' : w1.heap.size + 1 = (w1.alloc (Obj.cells #[Value.int IntKind.i64 0, Value.int IntKind.i64 0] 26)).heap.size := by simp
  rw [z1']
  clear z1' HG1
  generalize w1.alloc (Obj.cells #[Value.int IntKind.i64 0, Value.int IntKind.i64 0] 26) = W1 at *
  generalize w1.heap.size = b1 at *
  refine (pick_four _ 4 _ (fun _ => ⟨W1.heap.size, 0, rfl, by simp, fun j h => by rcases j with _ | _ | _ | _ | j <;> first | (simp [go_sem, nth]; done) | omega⟩)).mono ?_
  rintro e w2 ⟨rfl, hb2⟩
  have hb2' : Below W1.heap.size W1 w2 := ((Below.refl _ _).alloc (Nat.le_refl _) _).trans (hb2.mono (by simp))
  have HG3 := Lib.hid (HG2.out.below hb2')
  have HF3 := Lib.hid (HF.out.below hb2' z1)
  have z2 : b1 < w2.heap.size := HF3.out.lt
  clear hb2 hb2' HG2 HF
  go_wp2_with fail
  have HG4 := Lib.hid (HG3.out.alloc (Obj.cells #[Value.int IntKind.i64 0, Value.int IntKind.i64 0] 26))
  have HF4 := Lib.hid (HF3.out.alloc (Obj.cells #[Value.int IntKind.i64 0, Value.int IntKind.i64 0] 26))
  have HH4 := Lib.hid (Whole.new w2 26 #[Value.int IntKind.i64 0, Value.int IntKind.i64 0] w2.heap.size rfl)
  have z4 : w2.heap.size + 1 = (w2.alloc (Obj.cells #[Value.int IntKind.i64 0, Value.int IntKind.i64 0] 26)).heap.size := by simp
  rw [z4]
  have z5 : w2.heap.size < (w2.alloc (Obj.cells #[Value.int IntKind.i64 0, Value.int IntKind.i64 0] 26)).heap.size := by simp
  have z6 : b1 < (w2.alloc (Obj.cells #[Value.int IntKind.i64 0, Value.int IntKind.i64 0] 26)).heap.size := by simp; omega
  clear z4 HG3 HF3
  generalize w2.alloc (Obj.cells #[Value.int IntKind.i64 0, Value.int IntKind.i64 0] 26) = W2 at *
  generalize w2.heap.size = b2 at *
  refine (unit_one 1 _ _ (HG4.out.alloc _).gl (fun _ => ⟨W2.heap.size, 0, rfl, by simp, fun j h => by rcases j with _ | j <;> first | (simp [go_sem, ones]; done) | omega⟩)).mono ?_
  rintro e w3 ⟨rfl, hb3⟩
  have hb3' : Below W2.heap.size W2 w3 := ((Below.refl _ _).alloc (Nat.le_refl _) _).trans (hb3.mono (by simp))
  have HG5 := Lib.hid (HG4.out.below hb3')
  have HF5 := Lib.hid (HF4.out.below hb3' z6)
  have HH5 := Lib.hid (HH4.out.below hb3' z5)
  have z7 : b1 < w3.heap.size := HF5.out.lt
  have z8 : b2 < w3.heap.size := HH5.out.lt
  clear hb3 hb3' HG4 HF4 HH4 z5 z6
  go_wp2_with fail
  have HG6 := Lib.hid (HG5.out.alloc (Obj.cells #[Value.int IntKind.i64 9, Value.int IntKind.i64 1] 26))
  have HF6 := Lib.hid (HF5.out.alloc (Obj.cells #[Value.int IntKind.i64 9, Value.int IntKind.i64 1] 26))
  have HH6 := Lib.hid (HH5.out.alloc (Obj.cells #[Value.int IntKind.i64 9, Value.int IntKind.i64 1] 26))
  have HI6 := Lib.hid (Whole.new w3 26 #[Value.int IntKind.i64 9, Value.int IntKind.i64 1] w3.heap.size rfl)
  clear HG5 HF5 HH5 z7 z8 z2
  generalize w3.alloc (Obj.cells #[Value.int IntKind.i64 9, Value.int IntKind.i64 1] 26) = W3 at *
  generalize w3.heap.size = b3 at *
  have H0 : Three w b1 b2 b3 W3.drew := ⟨⟨HF6.out.cell 0, HH6.out.cell 0, HI6.out.cell 0, HI6.out.cell 1⟩, HF6.out.lt, HH6.out.lt, HI6.out.lt, HG6.out.be.drew⟩
  go_region_held3 (fun w' => (w'.cell? ⟨b1, 0, none⟩ = some (.int .i64 0) ∧ w'.cell? ⟨b2, 0, none⟩ = some (.int .i64 0) ∧ w'.cell? ⟨b3, 0, none⟩ = some (.int .i64 9) ∧ w'.cell? ⟨b3, 1, none⟩ = some (.int .i64 1)) ∧ b1 < w'.heap.size ∧ b2 < w'.heap.size ∧ b3 < w'.heap.size ∧ Below w.heap.size w w') (first | exact H0 | exact Three.below H0 hb) (first | (go_at_call 41; refine (fault_new 9 1 _).mono ?_; rintro e w4 ⟨rfl, hb⟩))
  go_wp2_with fail
  go_ret
  exact ⟨rfl, (Three.below H0 hb).2.2.2.2⟩
end Go.Proofs.YtjjfkidddjcdcaaDoor
