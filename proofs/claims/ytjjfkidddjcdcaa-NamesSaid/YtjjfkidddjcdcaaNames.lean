/- Proved here: called in whatever memory, the Go function enclosurelaw.Names returns true and leaves memory that was there before as it was. There are no conditions. -/
import Derived.Test.YtjjfkidddjcdcaaRows
import Derived.WalkKit
import Derived.ProofKit
import Derived.OpenShut
import Derived.Handy
import Derived.WalkLawsBesides
import Derived.Deep.QuietTactic
import Derived.BigQuiet
namespace Go.Proofs.Ytjjfkidddjcdcaa.names
open Go.ChangeShapes Go.WideShapes Go.ChangeAt Go.RowKit
set_option linter.unusedVariables false

theorem own : ownKnob Try.prog.godebug = none := by kernel_rfl

/-! ### the callees -/
theorem grown_drewN {a w : World} (h : Grown a w) (n : Nat) : Grown a (w.drewN n) := ⟨⟨h.1.1, h.1.2.1, h.1.2.2⟩, h.2.1, h.2.2⟩
theorem heap_alloc_new' (w : World) (o : Obj) (g : Nat) (hg : g = w.heap.size) : (w.alloc o).heap[g]? = some o := by subst hg; exact heap_alloc_new w o
theorem row12 (w : World) (cs : Array Value) (ty : TypeId) (f : Nat → Int) (g : Nat) (hg : w.heap[g]? = some (.cells cs ty (0, 0))) (n : Nat)
    (hcs : ∀ j, j < n → cs[j]? = some (.int .i64 (f j))) : Hid (∀ j, j < n → w.cell? ⟨g, j, none⟩ = some (.int .i64 (f j))) :=
  fun j hj => (cell_of_row w g j cs ty (0, 0) hg).trans (hcs j hj)
theorem quiet_add_same {P : Program} {f : FuncId} {args : Array Value} {w : World} {a n : Nat} {v : Value}
    (h : Calls P f args (w.drewN (a + n)) fun e w' => e = .returned v ∧ w' = w.drewN (a + n)) :
    Calls P f args (w.drewN (a + n)) fun e w'' => e = .returned v ∧ ∃ m, w'' = w.drewN (a + m) :=
  h.mono fun _ _ ⟨he, hm⟩ => ⟨he, n, hm⟩
theorem ints_any (a b : Int) (w : World) : Calls Try.prog 5 #[.int .i64 a, .int .i64 b] w fun e w' => e = .returned (.bool (a == b)) ∧ w' = w := by
  go_enter Try.func5, Try.ntmps5
  go_wp2
  go_ret
  exact ⟨rfl, rfl⟩

/-- Lists over two slices of the same numbers. -/
theorem lists_same (b1 b2 len c1 c2 : Nat) (f : Nat → Int) (w : World) (hbig : len ≤ 9223372036854775807)
    (h1 : Hid (∀ j, j < len → w.cell? ⟨b1, j, none⟩ = some (.int .i64 (f j)))) (h2 : Hid (∀ j, j < len → w.cell? ⟨b2, j, none⟩ = some (.int .i64 (f j)))) :
    Calls Try.prog 4 #[.slice (some ⟨b1, 0, none⟩) len c1, .slice (some ⟨b2, 0, none⟩) len c2, .func (.func 5) #[] #[]] w fun e w' => e = .returned (.bool true) ∧ ∃ n, w' = w.drewN n := by
  go_enter Try.func4, Try.ntmps4
  go_wp2
  go_loopw [15] (fun i wr => ∃ k n : Nat, k ≤ len ∧ i = .int .i64 k ∧ wr = w.drewN n) (fun i _ => len - (intOf i).toNat)
  case atStart => exact ⟨0, 0, Nat.zero_le _, rfl, rfl⟩
  case round =>
    obtain ⟨k, n, hk, rfl, rfl⟩ := hrel
    by_cases hlt : k < len
    · have c1 := h1.out k hlt
      have c2 := h2.out k hlt
      have e : (f k == f k) = true := by simp
      go_wp2_with fail
      go_quiet ((go_at_call 5; exact quiet_add_same (ints_any _ _ _)))
      go_wp2_with fail
      go_roundw
      case rel => exact ⟨k + 1, n + nq, by omega, by go_num, by simp⟩
      case measure => simp [intOf]; omega
    · go_wp2_with fail
      go_ret
      exact ⟨rfl, n, rfl⟩

theorem walk  (w : World) :
    Calls Try.prog 3 #[] w fun e w' => e = .returned (.bool true) ∧ Grown w w' := by
  go_enter Try.func3, Try.ntmps3
  go_wp2_with fail
  refine wp_loop_rounds 11 ?_
  repeat any_goals (rw [rounds_succ]; go_wp2_with fail)
  refine (lists_same _ _ 12 _ _ (fun j => [2000, 2000, 5000, 1200, 12, 6, 60, 4, 400, 64, 60, 20000].getD j 0) _ (by omega) ?_ ?_).mono ?_
  · refine row12 _ _ 3 _ _ ((Below.heap_alloc _ _ _ (by simp)).trans (heap_alloc_new' _ _ _ (by simp))) 12 ?_
    intro j hj
    rcases j with _ | _ | _ | _ | _ | _ | _ | _ | _ | _ | _ | _ | j <;> first | rfl | omega
  · refine row12 _ _ 3 _ _ (heap_alloc_new' _ _ _ (by simp)) 12 ?_
    intro j hj
    rcases j with _ | _ | _ | _ | _ | _ | _ | _ | _ | _ | _ | _ | j <;> first | rfl | omega
  rintro e w1 ⟨rfl, n1, rfl⟩
  go_wp2_with fail
  refine (lists_same _ _ 9 _ _ (fun j => [1, 2, 3, 4, 1, 2, 3, 4, 5].getD j 0) _ (by omega) ?_ ?_).mono ?_
  · refine row12 _ _ 3 _ _ ((Below.heap_alloc _ _ _ (by simp)).trans (heap_alloc_new' _ _ _ (by simp))) 9 ?_
    intro j hj
    rcases j with _ | _ | _ | _ | _ | _ | _ | _ | _ | j <;> first | rfl | omega
  · refine row12 _ _ 3 _ _ (heap_alloc_new' _ _ _ (by simp)) 9 ?_
    intro j hj
    rcases j with _ | _ | _ | _ | _ | _ | _ | _ | _ | j <;> first | rfl | omega
  rintro e w1 ⟨rfl, n2, rfl⟩
  go_wp2_with fail
  go_ret
  exact ⟨rfl, by repeat' (first | exact Grown.refl _ | refine grown_drewN ?_ _ | refine Grown.alloc ?_ _ _)⟩

/-! ### The row's step, as the kit's shell writes it -/
set_option maxRecDepth 100000 in
theorem lifted (os : Os) (started : os.Started) (H : Type) (enc : TypeId × Value → H) :
    ReturnsInHanded {} Try.checked os 3 .any (Rows.namesSpec.pre6 enc Try.prog Try.f3 Rows.namesRow.domain false) (Rows.namesSpec.post enc Try.prog Try.f3 false true false false) := by
  refine returnsInHanded_of_change (C := Try.checked) own started (by kernel_rfl) Try.func3
    (ChangeSpec.witness6 (enc := enc) (C := Try.checked) false ⟨#[], #[], []⟩ 8 (by kernel_rfl) (by kernel_rfl) (by kernel_rfl) (by kernel_rfl)) ?_
  intro W base args ds gs before hval0 hW hcnd _
  have hval : ∀ (j : Nat) t v, Try.f3.params[j]? = some t → args[j]? = some v → Value.okWide Try.prog W .any base t v := hval0
  have hW' := hW
  obtain ⟨p, q, hA0, hV, rfl, hfz, hnd⟩ := hW
  have hA : DataW.TrodAll enc Try.prog W 0 (fun _ => true) true Try.f3.params.toList args.toList ds p := hA0
  rw [Try.params3] at hA hval
  obtain ⟨rfl, rfl, rfl⟩ := trodAll_none hA
  obtain ⟨rfl, rfl⟩ := trodVars_none hV
  clear hA0 hval0
  simp only [List.append_nil] at hW'
  refine (walk  W).mono fun e W' ⟨he, hg⟩ => ?_
  subst he
  exact ⟨_, rfl, post_of_same (pa := []) (pv := []) hW' (fun _ _ _ => (trodAll_cons_mk (shut_bool Try.underlying4 _) trodAll_mk0)) (fun sp _ => rfl) (fun _ _ => rfl) rfl
    (hg.frame _) hg.2.1 (ok_one (by kernel_rfl) rfl (okWide_bool_mk Try.underlying4 _))⟩

theorem over : Rows.namesRow.holds Try.pinned (OpenSpec.ofChange Rows.namesSpec) :=
  OpenClaim.holds_of_wide 3 Try.f3 rfl rfl rfl rfl rfl rfl rfl ⟨rfl, rfl, rfl, rfl, rfl⟩ rfl rfl rfl rfl rfl (by kernel_rfl) Try.func3 (by kernel_rfl)
    (of_decide_eq_true (by kernel_rfl)) (by unfold Func.isWrapper; first | (rw [if_pos (by decide +kernel)]; kernel_rfl) | (rw [if_neg (by decide +kernel)]; exact ⟨rfl, rfl⟩))
    (fun os started H enc _ => lifted os started H enc)

/-- The given statement. -/
theorem proved : Rows.NamesSaid :=
  over
#print axioms proved
end Go.Proofs.Ytjjfkidddjcdcaa.names
