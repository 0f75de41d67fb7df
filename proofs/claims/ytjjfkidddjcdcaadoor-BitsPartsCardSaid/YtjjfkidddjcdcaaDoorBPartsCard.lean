/- Proved here: for every float and every three fields enclosurelaw.BitsParts returns true and leaves its arguments and what was in memory as they were. Conditions: the listed package-level variables hold what the program's text lays, which the card ties to that text. -/
import Derived.Test.YtjjfkidddjcdcaaDoorBParts
import Derived.Test.YtjjfkidddjcdcaaDoorCards
import Derived.Test.YtjjfkidddjcdcaaDoorTie
import Derived.SevenTiedAt
namespace Go.Proofs.YtjjfkidddjcdcaaDoor.bitsParts
open Go.ChangeShapes Go.WideShapes Go.ChangeAt Go.RowKit
open Go.Proofs (TabAt)

theorem float_lt {b : Nat} (h : (Lit.float .f64 b).wf = true) : b < 18446744073709551616 := by
  simpa [Lit.wf] using h

theorem walk (b : Nat) (neg : Bool) (exp : Int) (fr : Int) (hb : b < 18446744073709551616) (hf0 : 0 ≤ fr) (hf1 : fr < 18446744073709551616)
    (w : World) (hG : Glob w) (hT : TabAt 2 Go.Lib.deBruijn64tab w) (hz : 2 < w.heap.size) :
    Calls Tryd.prog 4 #[.float .f64 b, .bool neg, .int .i64 exp, .int .u64 fr] w fun e w' => e = .returned (.bool true) ∧ Below w.heap.size w w' := by
  obtain ⟨f, rfl⟩ : ∃ f : Nat, fr = f := ⟨fr.toNat, by omega⟩
  obtain ⟨r1, r2, r3⟩ := rung_parts b hb
  by_cases h : exp < 0 ∨ 2047 < exp ∨ 4503599627370495 < f
  · by_cases h1 : PL.rung b < 9218868437227405312
    · by_cases h0 : PL.rung b = 0
      · exact parts_zero_bad b neg exp f hb h0 h w hG hT hz
      · exact parts_fin_bad b neg exp f hb (by omega) h1 h w hG hT hz
    · exact parts_unfin_bad b neg exp f hb (by omega) h w hG hT hz
  · obtain ⟨x, rfl⟩ : ∃ x : Nat, exp = x := ⟨exp.toNat, by omega⟩
    have hx : x ≤ 2047 := by omega
    have hf : f ≤ 4503599627370495 := by omega
    by_cases h1 : PL.rung b < 9218868437227405312
    · by_cases h0 : PL.rung b = 0
      · exact parts_zero_ok b neg x f hb h0 hx hf w hG hT hz
      · exact parts_fin_ok b neg x f hb (by omega) h1 hx hf w hG hT hz
    · exact parts_unfin_ok b neg x f hb (by omega) hx hf w hG hT hz

set_option maxRecDepth 100000 in
theorem lifted (os : Os) (started : os.Started) (H : Type) (enc : TypeId × Value → H) :
    ReturnsInHanded {} Tryd.checked os 4 .any (fun w args => (Rows.bitsPartsSpec.pre enc Tryd.prog Tryd.f4 [] false w args ∧ laidMetH Tryd.prog Rows.bitsPartsRow.laid w) ∧ sizedMet enc Tryd.prog Tryd.f4 (OpenSpec.ofChange Rows.bitsPartsSpec) false w args)
      (Rows.bitsPartsSpec.post enc Tryd.prog Tryd.f4 false true false false) := by
  refine returnsInHanded_of_change_and (C := Tryd.checked) (X := fun w _ => laidMetH Tryd.prog Rows.bitsPartsRow.laid w) (fun _ _ _ hh h => h.of_heap hh) own started (by kernel_rfl) Tryd.func4
    (ChangeSpec.witness_shaped (enc := enc) (C := Tryd.checked) (os := os) (X := fun w _ => laidMetH Tryd.prog Rows.bitsPartsRow.laid w) false (World.doorLaid Tryd.prog 400 os) #[.float .f64 0, .bool false, .int .i64 0, .int .u64 0] 8 rfl (World.shaped_of_RefB (by kernel_rfl) (by kernel_rfl)) (by kernel_rfl) (by kernel_rfl) (by kernel_rfl) (door_met2 os _)) ?_
  intro W base args ds gs before hval0 hW _ _ hL _
  have hval : ∀ (j : Nat) t v, Tryd.f4.params[j]? = some t → args[j]? = some v → Value.okWide Tryd.prog W .any base t v := hval0
  have hW' := hW
  obtain ⟨p, q, hA0, hV, rfl, hfz, hnd⟩ := hW
  have hA : DataW.TrodAll enc Tryd.prog W 0 (fun _ => true) true Tryd.f4.params.toList args.toList ds p := hA0
  rw [Tryd.params4] at hA hval
  obtain ⟨v0, v1, v2, v3, d0, d1, d2, d3, p0, p1, p2, p3, rfl, rfl, rfl, h0, h1, h2, h3⟩ := trodAll_four hA
  obtain ⟨rfl, rfl⟩ := trodVars_none hV
  obtain ⟨b, rfl, rfl, rfl, wb⟩ := open_float Tryd.underlying33 (hval 0 33 v0 rfl rfl) h0
  obtain ⟨neg, rfl, rfl, rfl⟩ := open_bool Tryd.underlying4 (hval 1 4 v1 rfl rfl) h1
  obtain ⟨exp, rfl, rfl, rfl, we⟩ := open_int Tryd.underlying3 (hval 2 3 v2 rfl rfl) h2
  obtain ⟨fr, rfl, rfl, rfl, wf⟩ := open_int Tryd.underlying34 (hval 3 34 v3 rfl rfl) h3
  obtain ⟨hG, hT, hz⟩ := glob_of_laid2 hL
  clear hA0 hval0
  simp only [List.append_nil] at hW'
  have hf := bounds_u64 wf
  refine (walk b neg exp fr (float_lt wb) hf.1 (by omega) W hG hT hz).mono fun e W' ⟨he, hg⟩ => ?_
  subst he
  exact ⟨_, rfl, _, _, _, [], [], [], hW', trodAll_mk1 (shut_bool Tryd.underlying4 _), trodAll_mk4 (shut_float Tryd.underlying33 wb) (shut_bool Tryd.underlying4 _) (shut_int Tryd.underlying3 we) (shut_int Tryd.underlying34 wf), rfl, hg.frame _, fun h => by cases h⟩

theorem over : Rows.BitsPartsSaid :=
  OpenClaim.holds_of_wide 4 Tryd.f4 rfl rfl rfl rfl rfl rfl rfl ⟨rfl, rfl, rfl, rfl, rfl⟩ rfl rfl rfl rfl rfl (by kernel_rfl) Tryd.func4 (by kernel_rfl)
    (of_decide_eq_true (by kernel_rfl)) (by unfold Func.isWrapper; first | (rw [if_pos (by decide +kernel)]; kernel_rfl) | (rw [if_neg (by decide +kernel)]; exact ⟨rfl, rfl⟩))
    (fun os started H enc _ => lifted os started H enc)

/-- The given statement: the tied card. -/
theorem card_holds : Rows.BitsPartsCardSaid :=
  Claim7.holds_tied_plain_at .later [] [.data, .data] true Rows.bitsPartsCard.stood.harness false
    over (fun _ h => by cases h) (by kernel_rfl) (fun _ h => by cases h) bitsParts_row_tie rfl ⟨rfl, rfl⟩ (by kernel_rfl) rfl
    (fun f fn hf hfn => by
      obtain rfl : f = 4 := Option.some.inj ((show Tryd.prog.funcNamed Rows.bitsPartsRow.func = some 4 by kernel_rfl).symm.trans hf) |>.symm
      obtain rfl : fn = Tryd.f4 := (Option.some.inj (Tryd.func4.symm.trans hfn)).symm
      exact ⟨by kernel_rfl, fun j t ht => by
        rw [Tryd.params4] at ht
        have hm : t ∈ [33, 4, 3, 34] := by simpa using Array.mem_of_getElem? ht
        have hall : ([33, 4, 3, 34].all fun u => !Tryd.prog.wantsStandIn u) = true := by kernel_rfl
        exact (show Tryd.prog.wantsStandIn t = false by simpa using List.all_eq_true.1 hall t hm)⟩)
    (by kernel_rfl)
#print axioms card_holds
end Go.Proofs.YtjjfkidddjcdcaaDoor.bitsParts
