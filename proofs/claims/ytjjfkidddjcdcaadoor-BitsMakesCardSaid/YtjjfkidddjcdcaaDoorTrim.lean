/- Proved here: contracts of package enclosurebig's trim, words, twin, plain at this program. Conditions: as each theorem says. -/
import Derived.Test.YtjjfkidddjcdcaaDoorDig
import Derived.Test.YtjjfkidddjcdcaaDoorLaid
import Derived.RegionTactic
import Derived.ChangeAlike
import Derived.Deep.LoopGhost
import Derived.Deep.OwnRows
import Derived.Maps.AppendAt
namespace Go.Proofs.YtjjfkidddjcdcaaDoor
open Go.ChangeShapes Go.WideShapes Go.ChangeAt Go.RowKit

set_option maxHeartbeats 1000000 in
theorem trim_any (A : Option Addr) (n c v : Nat) (w : World) (hR : Row32 w A n (dig v)) (hv : Hid (v < B n)) (hc : n ≤ c) (hn : n ≤ 1000000) :
    Calls Tryd.prog 128 #[.slice A n c] w fun e w' => w' = w ∧ ∃ s, e = .returned s ∧ Num w s v := by
  have HR := Lib.hid hR
  clear hR
  go_enter Tryd.func128, Tryd.ntmps128
  go_wp2_with fail
  go_loop [3] (fun v3 => ∃ k : Nat, k ≤ n ∧ v3 = .int .i64 k ∧ v < B k) (fun v3 => (intOf v3).toNat)
  case atStart => exact ⟨n, Nat.le_refl _, rfl, hv.out⟩
  case round =>
    obtain ⟨k, hk, rfl, hvk⟩ := hrel
    rcases k with _ | k
    · go_wp2_with fail
      go_ret
      have : v = 0 := by rw [B_zero] at hvk; omega
      subst this
      exact ⟨rfl, _, rfl, A, c, rfl, HR.out.less hk⟩
    · obtain ⟨b, off, rfl, hb, hcell⟩ := HR.out (by omega)
      have h1 := hcell k (by omega)
      have HV := Lib.hid hvk
      clear hvk hcell
      by_cases hd : dig v k = 0
      · rw [hd] at h1
        go_wp2_with fail
        exact ⟨⟨k, by omega, rfl, lt_of_dig HV.out hd⟩, by simp [intOf]⟩
      · have hd' : ((dig v k : Int) == 0) = false := by simp; omega
        go_wp2_with fail
        go_ret
        have e := wc_eq HV.out hd
        exact ⟨rfl, .slice (some ⟨b, off, none⟩) (k + 1) c, rfl, _, c, by rw [e], by rw [e]; exact HR.out.less hk⟩

theorem dig_low (x : Nat) : dig x 0 = x % 4294967296 := by unfold dig; rw [B_zero, Nat.div_one]
theorem dig_one (x : Nat) (h : x < 18446744073709551616) : dig x 1 = x / 4294967296 := by
  have e : B 1 = 4294967296 := rfl
  unfold dig
  rw [e, Nat.mod_eq_of_lt (by omega)]

theorem words_any (x : Nat) (w : World) (hx : x < 18446744073709551616) :
    Calls Tryd.prog 112 #[.int .u64 x] w fun e w' => Below w.heap.size w w' ∧ ∃ s, e = .returned s ∧ Num w' s x := by
  have e0 := dig_low x
  have e1 := dig_one x hx
  have HE0 := Lib.hid e0
  have HE1 := Lib.hid e1
  clear e0 e1
  go_enter Tryd.func112, Tryd.ntmps112
  go_wp2_with fail
  have hR : Row32 (w.alloc (Obj.cells #[Value.int IntKind.u32 (↑x % 4294967296), Value.int IntKind.u32 (↑x / 4294967296)] 138)) (some ⟨w.heap.size, 0, none⟩) 2 (dig x) := fun _ =>
    ⟨w.heap.size, 0, rfl, by simp, fun j hj => by
      rcases j with _ | _ | j
      · rw [HE0.out]; simp [go_sem]
      · rw [HE1.out]; simp [go_sem]
      · omega⟩
  refine (trim_any _ 2 2 x _ hR (by show x < B 2; exact hx) (by omega) (by omega)).mono ?_
  rintro e w2 ⟨rfl, s, rfl, hs⟩
  go_wp2_with fail
  go_ret
  exact ⟨(Below.refl _ _).alloc (Nat.le_refl _) _, s, rfl, hs⟩

theorem or_word (x0 x1 : Nat) (h0 : x0 < 4294967296) (h1 : x1 < 4294967296) : bits .or .u64 (x0 : Int) ((x1 : Int) * 4294967296) = ((x0 + x1 * 4294967296 : Nat) : Int) := by
  have h := u64_or_nat x0 (x1 * 4294967296) (by omega) (by omega)
  rw [Nat.or_comm, nat_join 32 _ x0 (Nat.mul_mod_left _ _) (by omega), Nat.add_comm] at h
  exact h

theorem plain_any (A : Option Addr) (c v : Nat) (w : World) (hR : Row32 w A (wc v) (dig v)) (hv : v < 18446744073709551616) :
    Calls Tryd.prog 132 #[.slice A (wc v) c] w fun e w' => w' = w ∧ e = .returned (.int .u64 v) := by
  have h2 : wc v ≤ 2 := wc_le (by exact hv)
  have hw := wv_dig v (wc v) (lt_wc v)
  have HR := Lib.hid hR
  clear hR
  rcases hn : wc v with _ | _ | _ | n
  · rw [hn] at hw
    simp only [wv] at hw
    subst hw
    clear HR
    go_enter Tryd.func132, Tryd.ntmps132
    go_wp2_with fail
    go_ret
    exact ⟨rfl, rfl⟩
  · rw [hn] at hw HR
    obtain ⟨b, off, rfl, hb, hcell⟩ := HR.out (by omega)
    have c0 := hcell 0 (by omega)
    rw [Nat.add_zero] at c0
    have hd := dig_lt v 0
    rw [wv_succ, B_zero] at hw
    simp only [wv, Nat.zero_add, Nat.mul_one] at hw
    rw [hw] at c0
    clear hcell HR hw
    go_enter Tryd.func132, Tryd.ntmps132
    go_wp2_with fail
    go_ret
    exact ⟨rfl, rfl⟩
  · rw [hn] at hw HR
    obtain ⟨b, off, rfl, hb, hcell⟩ := HR.out (by omega)
    have c0 := hcell 0 (by omega)
    rw [Nat.add_zero] at c0
    have c1 := hcell 1 (by omega)
    have hd := dig_lt v 0
    have hd1 := dig_lt v 1
    have e : B 1 = 4294967296 := rfl
    rw [wv_succ, wv_succ, B_zero, e] at hw
    simp only [wv, Nat.zero_add, Nat.mul_one] at hw
    clear hcell HR e
    generalize dig v 0 = x0 at *
    generalize dig v 1 = x1 at *
    have ho := or_word x0 x1 hd hd1
    rw [hw] at ho
    go_enter Tryd.func132, Tryd.ntmps132
    go_wp2_with fail
    go_ret
    exact ⟨rfl, rfl⟩
  · omega

theorem wpList_append {ops : Array Oper} {rest : List Oper} {o : Oper} {a : Act} {w : World} {Q : Exit → Act → World → Prop} (hgd : o.guard = none) (s x : Operand) (t : TypeId)
    (ho : o.op = .call { callee := .builtin .append, args := #[s, x], argTypes := #[t, t] }) (v1 v2 v' : Value) (w' : World) (h1 : a.eval s = v1) (h2 : a.eval x = v2)
    (hrun : (Builtin.append_ #[t, t] o.type #[v1, v2]).run Tryd.prog w = .ok v' w') (h : wpList Tryd.prog ops Q rest (a.put o.dst v') w') : wpList Tryd.prog ops Q (o :: rest) a w :=
  wpList_plain hgd fun _ hK => by
    unfold Oper.wp execOp
    simp only [ho, resolve, invoke, builtin, Sem.run_bind, Sem.run_pure, Result.andThen_ok, List.map_toArray, List.map_cons, List.map_nil, h1, h2, hrun]
    exact hK _ _ h

set_option maxRecDepth 100000 in
theorem run_append_nil (A : Option Addr) (c : Nat) (w : World) : (Builtin.append_ #[99, 99] 99 #[.slice none 0 0, .slice A 0 c]).run Tryd.prog w = .ok (.slice none 0 0) w := by
  obtain ⟨i, hi⟩ : ∃ i, Tryd.prog.info? 138 = some i := ⟨_, rfl⟩
  cases A <;> simp [Builtin.append_, run_underlying Tryd.underlying99, sizeOf, typeInfo, hi, Builtin.lenOf, Builtin.firstCells, loadCells, loadCellsFrom]

set_option maxRecDepth 100000 in
theorem twin_any (A : Option Addr) (c v : Nat) (w : World) (hR : Row32 w A (wc v) (dig v)) (hv : wc v ≤ 1000000) :
    Calls Tryd.prog 131 #[.slice A (wc v) c] w fun e w' => Below w.heap.size w w' ∧ ∃ s, e = .returned s ∧ Num w' s v := by
  rcases Nat.eq_zero_or_pos (wc v) with h0 | h0
  · have hv0 : v = 0 := by
      rcases Nat.eq_zero_or_pos v with h | h
      · exact h
      · have := wc_pos h; omega
    subst hv0
    rw [wc_zero]
    have hr := run_append_nil A c w
    have HR := Lib.hid hr
    clear hr hR hv h0
    go_enter Tryd.func131, Tryd.ntmps131
    go_wp2_with (first | (at_builtin; refine wpList_append rfl _ _ _ rfl _ _ _ _ rfl rfl HR.out ?_))
    go_ret
    exact ⟨Below.refl _ _, _, rfl, Num.nil w⟩
  · obtain ⟨b, off, rfl, hb, hcell⟩ := hR h0
    obtain ⟨i, hi, hz, hs, hby⟩ : ∃ i, Tryd.prog.info? 138 = some i ∧ i.zero = some (.int .u32 0) ∧ i.size = 1 ∧ i.bytes = 4 := ⟨_, rfl, rfl, rfl, rfl⟩
    obtain ⟨v', w', hrun, hown, hg, _, hb'⟩ := run_append_own_at (P := Tryd.prog) w w.heap.size 99 99 138 i (.int .u32 0) 1 4 Tryd.underlying99 hi hz hs hby rfl (by omega) (.slice none 0 0) 0 []
      (World.ownsRow_nil _ _ _ _) ⟨b, off, none⟩ (wc v) c ((List.range (wc v)).map (fun j => .int .u32 (dig v j))) (by simp) (by
        intro j u hu
        rw [List.getElem?_map] at hu
        by_cases hj : j < wc v
        · rw [List.getElem?_range hj] at hu
          injection hu with hu
          rw [← hu, ← hcell j hj]
          by_cases h0 : j = 0 <;> simp [Addr.add, h0]
        · rw [List.getElem?_eq_none (by simpa using hj)] at hu
          cases hu) (by
        intro u hu
        simp at hu
        obtain ⟨_, _, rfl⟩ := hu
        rfl) (by simp only [maxLen]; omega) (by omega) (Nat.le_refl _)
    have HR := Lib.hid hrun
    clear hrun
    go_enter Tryd.func131, Tryd.ntmps131
    go_wp2_with (first | (at_builtin; refine wpList_append rfl _ _ _ rfl _ _ _ _ rfl rfl HR.out ?_))
    go_ret
    refine ⟨(Below.refl _ _).grown hg (Nat.le_refl _) (by simp [Value.ownBlock]), v', rfl, ?_⟩
    simp only [Nat.zero_add, List.nil_append] at hown
    have hown2 := hown
    rcases hown.2 with ⟨_, h⟩ | ⟨g, cap, cur, rfl, hg0, hblock, _, _, _, _⟩
    · omega
    · refine ⟨_, cap, rfl, fun _ => ⟨g, 0, rfl, ?_, fun j hj => ?_⟩⟩
      · rcases Nat.lt_or_ge g w'.heap.size with h1 | h1
        · exact h1
        · rw [Array.getElem?_eq_none h1] at hblock; cases hblock
      · have h := hown2.cellAt j (by omega)
        rw [Nat.zero_add, h, List.getElem?_map, List.getElem?_range hj]
        rfl
end Go.Proofs.YtjjfkidddjcdcaaDoor
