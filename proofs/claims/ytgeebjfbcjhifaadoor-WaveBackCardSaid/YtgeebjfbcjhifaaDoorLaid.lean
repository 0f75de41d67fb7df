/- Proved here: what the row's condition on the listed package-level variables says of memory at this program. Conditions: the listed variables read as the given row says. -/
import Derived.Test.YtgeebjfbcjhifaaDoorFlo
import Derived.Test.YtgeebjfbcjhifaaDoorRows
import Derived.OpenShut
import Derived.LaidMore
import Derived.Stop.Joined
import Derived.Lib.LaidTab
namespace Go.Proofs.YtgeebjfbcjhifaaDoor
open Go.ChangeShapes Go.WideShapes Go.ChangeAt Go.RowKit

/-- One float's cell, read back. -/
theorem float_cell {H : Type} {enc : TypeId × Value → H} {P : Program} {w : World} {base : Nat} {sp : Nat → Bool} {held : Bool} {fuel : Nat} {t : TypeId} {k : FloatKind} {cs : List Value} {x : DataW H × List MemPlace}
    (ht : P.underlying t = some (.float k)) (h : DataW.trod enc P w base sp held fuel t cs = some x) : ∃ b, cs = [.float k b] ∧ x.1 = .lit (.float k b) := by
  match fuel, h with
  | n + 1, h =>
    unfold DataW.trod at h
    rw [ht] at h
    split at h <;> first | contradiction | skip
    all_goals simp_all
    all_goals rw [← h.2]

theorem floats_read {H : Type} {enc : TypeId × Value → H} {P : Program} {w : World} {base : Nat} {sp : Nat → Bool} {held : Bool} {fuel : Nat} {t e : TypeId} {n : Nat} {k : FloatKind} {cs : List Value} {bs : List Nat} {p : List MemPlace}
    (ht : P.underlying t = some (.array n e)) (he : P.underlying e = some (.float k)) (hce : P.cellsOf e = 1)
    (h : DataW.trod enc P w base sp held fuel t cs = some (.agg (bs.map fun b => .lit (.float k b)), p)) (i b : Nat) (hi : i < n) (hb : bs[i]? = some b) : cs[i]? = some (.float k b) := by
  obtain ⟨xs, m, rfl, hx, _, hxl, hall⟩ := DataW.trod_array ht h
  have h1 := hall i hi
  rw [hce, Nat.mul_one, List.getElem?_eq_getElem (show i < xs.length by omega)] at h1
  obtain ⟨b', hcs, hx1⟩ := float_cell he h1
  have h2 := congrArg Prod.fst hx
  simp only [DataW.agg.injEq] at h2
  have h3 := congrArg (fun l => l[i]?) h2
  simp only [List.getElem?_map, hb, Option.map_some, List.getElem?_eq_getElem (show i < xs.length by omega), Option.some.injEq] at h3
  rw [hx1] at h3
  injection h3 with h3
  injection h3 with _ h3
  subst h3
  have h4 := congrArg (fun l => l[0]?) hcs
  simpa [List.getElem?_take, List.getElem?_drop] using h4

theorem own : ownKnob Tryd.prog.godebug = none := by kernel_rfl
theorem cells3 : Tryd.prog.cellsOf 3 = 1 := by kernel_rfl
theorem cells34 : Tryd.prog.cellsOf 34 = 1 := by kernel_rfl
theorem ty1 : (Tryd.prog.globals[1]?).map (·.type) = some 97 := by kernel_rfl
theorem ty2 : (Tryd.prog.globals[2]?).map (·.type) = some 97 := by kernel_rfl
theorem named1 : Rows.waveBackRow.named.map Tryd.prog.globalNamed = [some 1, some 2, some 3] := by kernel_rfl

theorem sincos_of_laid {W : World} (h : laidMetH Tryd.prog Rows.waveBackRow.laid W) : Sincos W := by
  rw [MakeChecks.laidMetH_plain _ _ _ (by kernel_rfl)] at h
  have hn := named1
  obtain ⟨ps, ⟨g0, t0, cs0, f0, p0, q0, hg0, ht0, hv0, hd0, ⟨g1, t1, cs1, f1, p1, q1, hg1, ht1, hv1, hd1, _, _⟩, _⟩, _, _⟩ := h
  have e0 : g0 = 1 ∧ g1 = 2 := by
    simp only [Rows.waveBackRow, List.map_cons, List.map_nil] at hn
    rw [hg0, hg1] at hn
    simp at hn
    exact ⟨hn.1, hn.2.1⟩
  obtain ⟨rfl, rfl⟩ := e0
  have e1 : t0 = 97 := (Option.some.inj (ty1.symm.trans ht0)).symm
  have e2 : t1 = 97 := (Option.some.inj (ty2.symm.trans ht1)).symm
  subst e1 e2
  have k1 : ∀ i b, i < 6 → [4460209587652500685, 13716528389658582877, 4523617212962785441, 13774824197404483331, 4575957461383575504, 13818544856648471880][i]? = some b → W.cell? ⟨1, i, none⟩ = some (.float .f64 b) := fun i b hi hb => by
    rw [World.var?_cell hg0 hv0 i, ← Array.getElem?_toList]
    exact floats_read Tryd.underlying97 Tryd.underlying34 cells34 hd0 i b hi hb
  have k2 : ∀ i b, i < 6 → [13666448263388469915, 4477121864728985349, 13732177093698800582, 4537941361668146421, 13787419979223748497, 4586165620538955083][i]? = some b → W.cell? ⟨2, i, none⟩ = some (.float .f64 b) := fun i b hi hb => by
    rw [World.var?_cell hg1 hv1 i, ← Array.getElem?_toList]
    exact floats_read Tryd.underlying97 Tryd.underlying34 cells34 hd1 i b hi hb
  exact ⟨k1 0 _ (by omega) rfl, k1 1 _ (by omega) rfl, k1 2 _ (by omega) rfl, k1 3 _ (by omega) rfl, k1 4 _ (by omega) rfl, k1 5 _ (by omega) rfl, k2 0 _ (by omega) rfl, k2 1 _ (by omega) rfl, k2 2 _ (by omega) rfl, k2 3 _ (by omega) rfl, k2 4 _ (by omega) rfl, k2 5 _ (by omega) rfl,
    World.block_lt_of_cell? W ⟨2, 0, none⟩ (k2 0 _ (by omega) rfl)⟩

theorem door_met (os : Os) (args : Array Value) : laidMetH Tryd.prog Rows.waveBackRow.laid ((World.doorLaid Tryd.prog 400 os).forCall (fun _ _ => 0) ⟨#[], args, []⟩).memory :=
  laidMetH_of_parts3 (fuel := 8) (laidMet_of_run' 8 (by kernel_rfl) (by kernel_rfl)) (by kernel_rfl) (by kernel_rfl)
end Go.Proofs.YtgeebjfbcjhifaaDoor
