/- Proved here: what the rows' condition on the listed package-level variables says of memory at this program. Conditions: the listed variables read as the given rows say. -/
import Derived.Test.YtjjfkidddjcdcaaDoorMade
import Derived.LaidMore
import Derived.Stop.Joined
import Derived.Lib.LaidU8
import Derived.Laws.FloatArith
namespace Go.Proofs.YtjjfkidddjcdcaaDoor
open Go.ChangeShapes Go.WideShapes Go.ChangeAt Go.RowKit
open Go.Proofs (TabAt)

structure Glob (w : World) : Prop where
  g0 : w.cell? ⟨1, 0, none⟩ = some (.int .i64 11)
  g1 : w.cell? ⟨1, 1, none⟩ = some (.int .i64 52)
  sz : 1 < w.heap.size

theorem Glob.below {w w' : World} (h : Glob w) (hb : Below w.heap.size w w') : Glob w' :=
  ⟨(hb.cell (p := ⟨1, 0, none⟩) h.sz).trans h.g0, (hb.cell (p := ⟨1, 1, none⟩) h.sz).trans h.g1, Nat.lt_of_lt_of_le h.sz hb.size⟩

theorem tab_below {w w' : World} (hT : TabAt 2 Go.Lib.deBruijn64tab w) (hz : 2 < w.heap.size) (hb : Below w.heap.size w w') : TabAt 2 Go.Lib.deBruijn64tab w' :=
  fun j hj => (hb.cell (p := ⟨2, j, none⟩) hz).trans (hT j hj)

theorem own : ownKnob Tryd.prog.godebug = none := by kernel_rfl
theorem cells3 : Tryd.prog.cellsOf 3 = 1 := by kernel_rfl
theorem cells5 : Tryd.prog.cellsOf 5 = 1 := by kernel_rfl
theorem cells51 : Tryd.prog.cellsOf 51 = 2 := by kernel_rfl
theorem cells127 : Tryd.prog.cellsOf 127 = 64 := by kernel_rfl
theorem ty1 : (Tryd.prog.globals[1]?).map (·.type) = some 51 := by kernel_rfl
theorem ty2 : (Tryd.prog.globals[2]?).map (·.type) = some 127 := by kernel_rfl
theorem named1 : Rows.chanceOftenRow.named.map Tryd.prog.globalNamed = [some 1] := by kernel_rfl
theorem named2 : Rows.bitsPartsRow.named.map Tryd.prog.globalNamed = [some 2, some 1] := by kernel_rfl

theorem double_cells {W : World} {n : String} {cs : Array Value} {fuel : Nat} {p : List MemPlace} (hg : Tryd.prog.globalNamed n = some 1) (hv : W.var? Tryd.prog n = some cs)
    (hd : DataW.trod (fun _ => ()) Tryd.prog W 0 (fun _ => true) false fuel 51 cs.toList = some (Rows.laid_enclosure_bits_double, p)) : Glob W := by
  have hcs := Go.Lib.ints_of_struct (zs := [11, 52]) (k := .i64) Tryd.underlying51 (fun j f hj => by
    match j, hj with
    | 0, hj => simp at hj; subst hj; exact ⟨Tryd.underlying3, rfl, cells3⟩
    | 1, hj => simp at hj; subst hj; exact ⟨Tryd.underlying3, rfl, cells3⟩
    | j + 2, hj => simp at hj) (by rw [cells51]; rfl) hd
  have h0 : W.cell? ⟨1, 0, none⟩ = some (.int .i64 11) := by
    rw [World.var?_cell hg hv 0, ← Array.getElem?_toList, hcs]; rfl
  have h1 : W.cell? ⟨1, 1, none⟩ = some (.int .i64 52) := by
    rw [World.var?_cell hg hv 1, ← Array.getElem?_toList, hcs]; rfl
  exact ⟨h0, h1, World.block_lt_of_cell? W ⟨1, 0, none⟩ h0⟩

theorem tab_data : (Rows.laid_math_bits_deBruijn64tab : DataW Unit) = Go.Lib.tabData .u8 (Go.Lib.deBruijn64tab.map Int.ofNat) := by
  kernel_rfl

theorem tab_cells {W : World} {n : String} {cs : Array Value} {fuel : Nat} {p : List MemPlace} (hg : Tryd.prog.globalNamed n = some 2) (hv : W.var? Tryd.prog n = some cs)
    (hd : DataW.trod (fun _ => ()) Tryd.prog W 0 (fun _ => true) false fuel 127 cs.toList = some (Rows.laid_math_bits_deBruijn64tab, p)) : TabAt 2 Go.Lib.deBruijn64tab W ∧ 2 < W.heap.size := by
  rw [tab_data] at hd
  have hcs := Go.Lib.cells_of_tab Tryd.underlying127 Tryd.underlying5 cells5 cells127 hd
  have hT : TabAt 2 Go.Lib.deBruijn64tab W := by
    intro j hj
    rw [World.var?_cell hg hv j, ← Array.getElem?_toList, hcs]
    simp [hj]
  exact ⟨hT, World.block_lt_of_cell? W ⟨2, 0, none⟩ (hT 0 (by decide))⟩

/-- The list of one: the program's own format. -/
theorem glob_of_laid1 {W : World} (h : laidMetH Tryd.prog Rows.chanceOftenRow.laid W) : Glob W := by
  rw [MakeChecks.laidMetH_plain _ _ _ (by kernel_rfl)] at h
  have hn := named1
  obtain ⟨ps, ⟨g0, t0, cs0, f0, p0, q0, hg0, ht0, hv0, hd0, _, _⟩, _, _⟩ := h
  have e0 : g0 = 1 := by
    simp only [Rows.chanceOftenRow, List.map_cons, List.map_nil] at hn
    rw [hg0] at hn
    simpa using hn
  subst e0
  have e1 : t0 = 51 := (Option.some.inj (ty1.symm.trans ht0)).symm
  subst e1
  exact double_cells hg0 hv0 hd0

/-- The list of two: the library's table, and the program's own format. -/
theorem glob_of_laid2 {W : World} (h : laidMetH Tryd.prog Rows.bitsPartsRow.laid W) : Glob W ∧ TabAt 2 Go.Lib.deBruijn64tab W ∧ 2 < W.heap.size := by
  rw [MakeChecks.laidMetH_plain _ _ _ (by kernel_rfl)] at h
  have hn := named2
  obtain ⟨ps, ⟨g0, t0, cs0, f0, p0, q0, hg0, ht0, hv0, hd0, ⟨g1, t1, cs1, f1, p1, q1, hg1, ht1, hv1, hd1, _, _⟩, _⟩, _, _⟩ := h
  have e0 : g0 = 2 ∧ g1 = 1 := by
    simp only [Rows.bitsPartsRow, List.map_cons, List.map_nil] at hn
    rw [hg0, hg1] at hn
    simpa using hn
  obtain ⟨rfl, rfl⟩ := e0
  have e1 : t0 = 127 := (Option.some.inj (ty2.symm.trans ht0)).symm
  have e2 : t1 = 51 := (Option.some.inj (ty1.symm.trans ht1)).symm
  subst e1 e2
  exact ⟨double_cells hg1 hv1 hd1, tab_cells hg0 hv0 hd0⟩

theorem door_met1 (os : Os) (args : Array Value) : laidMetH Tryd.prog Rows.chanceOftenRow.laid ((World.doorLaid Tryd.prog 400 os).forCall (fun _ _ => 0) ⟨#[], args, []⟩).memory :=
  laidMetH_of_parts3 (fuel := 8) (laidMet_of_run' 8 (by kernel_rfl) (by kernel_rfl)) (by kernel_rfl) (by kernel_rfl)

theorem door_met2 (os : Os) (args : Array Value) : laidMetH Tryd.prog Rows.bitsPartsRow.laid ((World.doorLaid Tryd.prog 400 os).forCall (fun _ _ => 0) ⟨#[], args, []⟩).memory :=
  laidMetH_of_parts3 (fuel := 8) (laidMet_of_run' 8 (by kernel_rfl) (by kernel_rfl)) (by kernel_rfl) (by kernel_rfl)
end Go.Proofs.YtjjfkidddjcdcaaDoor
