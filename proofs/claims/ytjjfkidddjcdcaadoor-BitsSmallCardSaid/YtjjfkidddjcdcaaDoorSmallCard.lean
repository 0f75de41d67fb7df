/- Proved here: for every float, all bits and every format enclosurelaw.BitsSmall returns true and leaves its arguments and what was in memory as they were. Conditions: the listed package-level variables hold what the program's text lays, which the card ties to that text. -/
import Derived.Test.YtjjfkidddjcdcaaDoorSmallLaw2
import Derived.Test.YtjjfkidddjcdcaaDoorCards
import Derived.Test.YtjjfkidddjcdcaaDoorTie
import Derived.SevenTiedAt
import Derived.Lib.SmallJoins
namespace Go.Proofs.YtjjfkidddjcdcaaDoor.bitsSmall
open Go.ChangeShapes Go.WideShapes Go.ChangeAt Go.RowKit Go.Joins
open Go.Proofs (TabAt)

theorem float_lt {b : Nat} (h : (Lit.float .f64 b).wf = true) : b < 18446744073709551616 := by
  simpa [Lit.wf] using h

theorem Tryd.cells51 : Tryd.prog.cellsOf 51 = 2 := by kernel_rfl

set_option maxRecDepth 100000 in
theorem lifted (os : Os) (started : os.Started) (H : Type) (enc : TypeId × Value → H) :
    ReturnsInHanded {} Tryd.checked os 6 .any (fun w args => (Rows.bitsSmallSpec.pre enc Tryd.prog Tryd.f6 [] false w args ∧ laidMetH Tryd.prog Rows.bitsSmallRow.laid w) ∧ sizedMet enc Tryd.prog Tryd.f6 (OpenSpec.ofChange Rows.bitsSmallSpec) false w args)
      (Rows.bitsSmallSpec.post enc Tryd.prog Tryd.f6 false true false false) := by
  refine returnsInHanded_of_change_and (C := Tryd.checked) (X := fun w _ => laidMetH Tryd.prog Rows.bitsSmallRow.laid w) (fun _ _ _ hh h => h.of_heap hh) own started (by kernel_rfl) Tryd.func6
    (ChangeSpec.witness_shaped (enc := enc) (C := Tryd.checked) (os := os) (X := fun w _ => laidMetH Tryd.prog Rows.bitsSmallRow.laid w) false (World.doorLaid Tryd.prog 400 os) #[.float .f64 0, .int .u64 0, .agg #[.int .i64 0, .int .i64 0]] 8 rfl (World.shaped_of_RefB (by kernel_rfl) (by kernel_rfl)) (by kernel_rfl) (by kernel_rfl) (by kernel_rfl) (door_met1 os _)) ?_
  intro W base args ds gs before hval0 hW _ _ hL _
  have hval : ∀ (j : Nat) t v, Tryd.f6.params[j]? = some t → args[j]? = some v → Value.okWide Tryd.prog W .any base t v := hval0
  have hW' := hW
  obtain ⟨p, q, hA0, hV, rfl, hfz, hnd⟩ := hW
  have hA : DataW.TrodAll enc Tryd.prog W 0 (fun _ => true) true Tryd.f6.params.toList args.toList ds p := hA0
  rw [Tryd.params6] at hA hval
  obtain ⟨v0, v1, v2, d0, d1, d2, p0, p1, p2, rfl, rfl, rfl, h0, h1, h2⟩ := trodAll_three hA
  obtain ⟨rfl, rfl⟩ := trodVars_none hV
  obtain ⟨a0, rfl, rfl, rfl, w0⟩ := open_float Tryd.underlying33 (hval 0 33 v0 rfl rfl) h0
  obtain ⟨a1, rfl, rfl, rfl, w1⟩ := open_int Tryd.underlying34 (hval 1 34 v1 rfl rfl) h1
  obtain ⟨c0, c1, y0, y1, m, rfl, rfl, rfl, hy0, hy1⟩ := open_agg2 Tryd.underlying51 (by kernel_rfl) Tryd.cells51 (hval 2 51 v2 rfl rfl) h2
  obtain ⟨aE, e0, rfl, wE⟩ := DataW.trod_int Tryd.underlying3 hy0
  obtain ⟨aF, e1, rfl, wF⟩ := DataW.trod_int Tryd.underlying3 hy1
  simp at e0 e1
  subst e0 e1
  have structReads : ∀ (W' : World) (sp : Nat → Bool), DataW.Trod enc Tryd.prog W' 0 sp true 51 (.agg #[.int .i64 aE, .int .i64 aF]) (.agg [.lit (.int .i64 aE), .lit (.int .i64 aF)]) [] := fun W' sp =>
    shut_agg2 (y0 := (.lit (.int .i64 aE), [])) (y1 := (.lit (.int .i64 aF), [])) Tryd.underlying51 (by kernel_rfl) Tryd.cells51 ⟨1, by simp [DataW.trod, Tryd.underlying3, wE]⟩ ⟨1, by simp [DataW.trod, Tryd.underlying3, wF]⟩
  have hG := glob_of_laid1 hL
  clear hA0 hval0
  simp only [List.append_nil] at hW'
  have q1 := bounds_u64 w1
  obtain ⟨n1, rfl⟩ : ∃ n : Nat, a1 = n := ⟨a1.toNat, by omega⟩
  refine (law6_true a0 n1 aE aF W (float_lt w0) (by omega) hG).mono fun e W' ⟨he, hg⟩ => ?_
  subst he
  exact ⟨_, rfl, _, _, _, [], [], [], hW', trodAll_mk1 (shut_bool Tryd.underlying4 _), trodAll_mk3 (shut_float Tryd.underlying33 w0) (shut_int Tryd.underlying34 w1) (structReads _ _), rfl, hg.frame _, fun h => by cases h⟩

theorem over : Rows.BitsSmallSaid :=
  OpenClaim.holds_of_wide 6 Tryd.f6 rfl rfl rfl rfl rfl rfl rfl ⟨rfl, rfl, rfl, rfl, rfl⟩ rfl rfl rfl rfl rfl (by kernel_rfl) Tryd.func6 (by kernel_rfl)
    (of_decide_eq_true (by kernel_rfl)) (by unfold Func.isWrapper; first | (rw [if_pos (by decide +kernel)]; kernel_rfl) | (rw [if_neg (by decide +kernel)]; exact ⟨rfl, rfl⟩))
    (fun os started H enc _ => lifted os started H enc)

/-- The given statement: the tied card. -/
theorem card_holds : Rows.BitsSmallCardSaid :=
  Claim7.holds_tied_plain_at .later [] [.data] true Rows.bitsSmallCard.stood.harness false
    over (fun _ h => by cases h) (by kernel_rfl) (fun _ h => by cases h) bitsSmall_row_tie rfl ⟨rfl, rfl⟩ (by kernel_rfl) rfl
    (fun f fn hf hfn => by
      obtain rfl : f = 6 := Option.some.inj ((show Tryd.prog.funcNamed Rows.bitsSmallRow.func = some 6 by kernel_rfl).symm.trans hf) |>.symm
      obtain rfl : fn = Tryd.f6 := (Option.some.inj (Tryd.func6.symm.trans hfn)).symm
      exact ⟨by kernel_rfl, fun j t ht => by
        rw [Tryd.params6] at ht
        have hm : t ∈ [33, 34, 51] := by simpa using Array.mem_of_getElem? ht
        have hall : ([33, 34, 51].all fun u => !Tryd.prog.wantsStandIn u) = true := by kernel_rfl
        exact (show Tryd.prog.wantsStandIn t = false by simpa using List.all_eq_true.1 hall t hm)⟩)
    (by kernel_rfl)
#print axioms card_holds
end Go.Proofs.YtjjfkidddjcdcaaDoor.bitsSmall
