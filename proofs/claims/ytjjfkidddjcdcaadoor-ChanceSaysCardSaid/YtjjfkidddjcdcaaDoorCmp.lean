/- Proved here: contracts of package enclosurebig's trim, words, twin, plain at this program. Conditions: as each theorem says.
   Proved here: contracts of package enclosurebig's cmp, length, bit, twos at this program. Conditions: as each theorem says. -/
import Derived.Test.YtjjfkidddjcdcaaDoorDig
import Derived.Test.YtjjfkidddjcdcaaDoorLaid
import Derived.RegionTactic
import Derived.ChangeAlike
import Derived.Deep.LoopGhost
import Derived.Deep.OwnRows
import Derived.Maps.AppendAt
namespace Go.Proofs.YtjjfkidddjcdcaaDoor
open Go.ChangeShapes Go.WideShapes Go.ChangeAt Go.RowKit

set_option maxHeartbeats 1000000 in
theorem trim_any (A : Option Addr) (n c v : Nat) (w : World) (hR : Row32 w A n (dig v)) (hv : Hid (v < B n)) (hc : n ≤ c) (hn : n ≤ 1000000) :
    Calls Tryd.prog 128 #[.slice A n c] w fun e w' => w' = w ∧ ∃ s, e = .returned s ∧ Num w s v := by
  have HR := Lib.hid hR
  clear hR
  go_enter Tryd.func128, Tryd.ntmps128
  go_wp2_with fail
  go_loop [3] (fun v3 => ∃ k : Nat, k ≤ n ∧ v3 = .int .i64 k ∧ v < B k) (fun v3 => (intOf v3).toNat)
  case atStart => exact ⟨n, Nat.le_refl _, rfl, hv.out⟩
  case round =>
    obtain ⟨k, hk, rfl, hvk⟩ := hrel
    rcases k with _ | k
    · go_wp2_with fail
      go_ret
      have : v = 0 := by rw [B_zero] at hvk; omega
      subst this
      exact ⟨rfl, _, rfl, A, c, rfl, HR.out.less hk⟩
    · obtain ⟨b, off, rfl, hb, hcell⟩ := HR.out (by omega)
      have h1 := hcell k (by omega)
      have HV := Lib.hid hvk
      clear hvk hcell
      by_cases hd : dig v k = 0
      · rw [hd] at h1
        go_wp2_with fail
        exact ⟨⟨k, by omega, rfl, lt_of_dig HV.out hd⟩, by simp [intOf]⟩
      · have hd' : ((dig v k : Int) == 0) = false := by simp; omega
        go_wp2_with fail
        go_ret
        have e := wc_eq HV.out hd
        exact ⟨rfl, .slice (some ⟨b, off, none⟩) (k + 1) c, rfl, _, c, by rw [e], by rw [e]; exact HR.out.less hk⟩

theorem dig_low (x : Nat) : dig x 0 = x % 4294967296 := by unfold dig; rw [B_zero, Nat.div_one]
theorem dig_one (x : Nat) (h : x < 18446744073709551616) : dig x 1 = x / 4294967296 := by
  have e : B 1 = 4294967296 := rfl
  unfold dig
  rw [e, Nat.mod_eq_of_lt (by omega)]

theorem words_any (x : Nat) (w : World) (hx : x < 18446744073709551616) :
    Calls Tryd.prog 112 #[.int .u64 x] w fun e w' => Below w.heap.size w w' ∧ ∃ s, e = .returned s ∧ Num w' s x := by
  have e0 := dig_low x
  have e1 := dig_one x hx
  have HE0 := Lib.hid e0
  have HE1 := Lib.hid e1
  clear e0 e1
  go_enter Tryd.func112, Tryd.ntmps112
  go_wp2_with fail
  have hR : Row32 (w.alloc (Obj.cells #[Value.int IntKind.u32 (↑x % 4294967296), Value.int IntKind.u32 (↑x / 4294967296)] 138)) (some ⟨w.heap.size, 0, none⟩) 2 (dig x) := fun _ =>
    ⟨w.heap.size, 0, rfl, by simp, fun j hj => by
      rcases j with _ | _ | j
      · rw [HE0.out]; simp [go_sem]
      · rw [HE1.out]; simp [go_sem]
      · omega⟩
  refine (trim_any _ 2 2 x _ hR (by show x < B 2; exact hx) (by omega) (by omega)).mono ?_
  rintro e w2 ⟨rfl, s, rfl, hs⟩
  go_wp2_with fail
  go_ret
  exact ⟨(Below.refl _ _).alloc (Nat.le_refl _) _, s, rfl, hs⟩

theorem or_word (x0 x1 : Nat) (h0 : x0 < 4294967296) (h1 : x1 < 4294967296) : bits .or .u64 (x0 : Int) ((x1 : Int) * 4294967296) = ((x0 + x1 * 4294967296 : Nat) : Int) := by
  have h := u64_or_nat x0 (x1 * 4294967296) (by omega) (by omega)
  rw [Nat.or_comm, nat_join 32 _ x0 (Nat.mul_mod_left _ _) (by omega), Nat.add_comm] at h
  exact h

theorem plain_any (A : Option Addr) (c v : Nat) (w : World) (hR : Row32 w A (wc v) (dig v)) (hv : v < 18446744073709551616) :
    Calls Tryd.prog 132 #[.slice A (wc v) c] w fun e w' => w' = w ∧ e = .returned (.int .u64 v) := by
  have h2 : wc v ≤ 2 := wc_le (by exact hv)
  have hw := wv_dig v (wc v) (lt_wc v)
  have HR := Lib.hid hR
  clear hR
  rcases hn : wc v with _ | _ | _ | n
  · rw [hn] at hw
    simp only [wv] at hw
    subst hw
    clear HR
    go_enter Tryd.func132, Tryd.ntmps132
    go_wp2_with fail
    go_ret
    exact ⟨rfl, rfl⟩
  · rw [hn] at hw HR
    obtain ⟨b, off, rfl, hb, hcell⟩ := HR.out (by omega)
    have c0 := hcell 0 (by omega)
    rw [Nat.add_zero] at c0
    have hd := dig_lt v 0
    rw [wv_succ, B_zero] at hw
    simp only [wv, Nat.zero_add, Nat.mul_one] at hw
    rw [hw] at c0
    clear hcell HR hw
    go_enter Tryd.func132, Tryd.ntmps132
    go_wp2_with fail
    go_ret
    exact ⟨rfl, rfl⟩
  · rw [hn] at hw HR
    obtain ⟨b, off, rfl, hb, hcell⟩ := HR.out (by omega)
    have c0 := hcell 0 (by omega)
    rw [Nat.add_zero] at c0
    have c1 := hcell 1 (by omega)
    have hd := dig_lt v 0
    have hd1 := dig_lt v 1
    have e : B 1 = 4294967296 := rfl
    rw [wv_succ, wv_succ, B_zero, e] at hw
    simp only [wv, Nat.zero_add, Nat.mul_one] at hw
    clear hcell HR e
    generalize dig v 0 = x0 at *
    generalize dig v 1 = x1 at *
    have ho := or_word x0 x1 hd hd1
    rw [hw] at ho
    go_enter Tryd.func132, Tryd.ntmps132
    go_wp2_with fail
    go_ret
    exact ⟨rfl, rfl⟩
  · omega

theorem wpList_append {ops : Array Oper} {rest : List Oper} {o : Oper} {a : Act} {w : World} {Q : Exit → Act → World → Prop} (hgd : o.guard = none) (s x : Operand) (t : TypeId)
    (ho : o.op = .call { callee := .builtin .append, args := #[s, x], argTypes := #[t, t] }) (v1 v2 v' : Value) (w' : World) (h1 : a.eval s = v1) (h2 : a.eval x = v2)
    (hrun : (Builtin.append_ #[t, t] o.type #[v1, v2]).run Tryd.prog w = .ok v' w') (h : wpList Tryd.prog ops Q rest (a.put o.dst v') w') : wpList Tryd.prog ops Q (o :: rest) a w :=
  wpList_plain hgd fun _ hK => by
    unfold Oper.wp execOp
    simp only [ho, resolve, invoke, builtin, Sem.run_bind, Sem.run_pure, Result.andThen_ok, List.map_toArray, List.map_cons, List.map_nil, h1, h2, hrun]
    exact hK _ _ h

set_option maxRecDepth 100000 in
theorem run_append_nil (A : Option Addr) (c : Nat) (w : World) : (Builtin.append_ #[99, 99] 99 #[.slice none 0 0, .slice A 0 c]).run Tryd.prog w = .ok (.slice none 0 0) w := by
  obtain ⟨i, hi⟩ : ∃ i, Tryd.prog.info? 138 = some i := ⟨_, rfl⟩
  cases A <;> simp [Builtin.append_, run_underlying Tryd.underlying99, sizeOf, typeInfo, hi, Builtin.lenOf, Builtin.firstCells, loadCells, loadCellsFrom]

set_option maxRecDepth 100000 in
theorem twin_any (A : Option Addr) (c v : Nat) (w : World) (hR : Row32 w A (wc v) (dig v)) (hv : wc v ≤ 1000000) :
    Calls Tryd.prog 131 #[.slice A (wc v) c] w fun e w' => Below w.heap.size w w' ∧ ∃ s, e = .returned s ∧ Num w' s v := by
  rcases Nat.eq_zero_or_pos (wc v) with h0 | h0
  · have hv0 : v = 0 := by
      rcases Nat.eq_zero_or_pos v with h | h
      · exact h
      · have := wc_pos h; omega
    subst hv0
    rw [wc_zero]
    have hr := run_append_nil A c w
    have HR := Lib.hid hr
    clear hr hR hv h0
    go_enter Tryd.func131, Tryd.ntmps131
    go_wp2_with (first | (at_builtin; refine wpList_append rfl _ _ _ rfl _ _ _ _ rfl rfl HR.out ?_))
    go_ret
    exact ⟨Below.refl _ _, _, rfl, Num.nil w⟩
  · obtain ⟨b, off, rfl, hb, hcell⟩ := hR h0
    obtain ⟨i, hi, hz, hs, hby⟩ : ∃ i, Tryd.prog.info? 138 = some i ∧ i.zero = some (.int .u32 0) ∧ i.size = 1 ∧ i.bytes = 4 := ⟨_, rfl, rfl, rfl, rfl⟩
    obtain ⟨v', w', hrun, hown, hg, _, hb'⟩ := run_append_own_at (P := Tryd.prog) w w.heap.size 99 99 138 i (.int .u32 0) 1 4 Tryd.underlying99 hi hz hs hby rfl (by omega) (.slice none 0 0) 0 []
      (World.ownsRow_nil _ _ _ _) ⟨b, off, none⟩ (wc v) c ((List.range (wc v)).map (fun j => .int .u32 (dig v j))) (by simp) (by
        intro j u hu
        rw [List.getElem?_map] at hu
        by_cases hj : j < wc v
        · rw [List.getElem?_range hj] at hu
          injection hu with hu
          rw [← hu, ← hcell j hj]
          by_cases h0 : j = 0 <;> simp [Addr.add, h0]
        · rw [List.getElem?_eq_none (by simpa using hj)] at hu
          cases hu) (by
        intro u hu
        simp at hu
        obtain ⟨_, _, rfl⟩ := hu
        rfl) (by simp only [maxLen]; omega) (by omega) (Nat.le_refl _)
    have HR := Lib.hid hrun
    clear hrun
    go_enter Tryd.func131, Tryd.ntmps131
    go_wp2_with (first | (at_builtin; refine wpList_append rfl _ _ _ rfl _ _ _ _ rfl rfl HR.out ?_))
    go_ret
    refine ⟨(Below.refl _ _).grown hg (Nat.le_refl _) (by simp [Value.ownBlock]), v', rfl, ?_⟩
    simp only [Nat.zero_add, List.nil_append] at hown
    have hown2 := hown
    rcases hown.2 with ⟨_, h⟩ | ⟨g, cap, cur, rfl, hg0, hblock, _, _, _, _⟩
    · omega
    · refine ⟨_, cap, rfl, fun _ => ⟨g, 0, rfl, ?_, fun j hj => ?_⟩⟩
      · rcases Nat.lt_or_ge g w'.heap.size with h1 | h1
        · exact h1
        · rw [Array.getElem?_eq_none h1] at hblock; cases hblock
      · have h := hown2.cellAt j (by omega)
        rw [Nat.zero_add, h, List.getElem?_map, List.getElem?_range hj]
        rfl
end Go.Proofs.YtjjfkidddjcdcaaDoor

namespace Go.Proofs.YtjjfkidddjcdcaaDoor
open Go.ChangeShapes Go.WideShapes Go.ChangeAt Go.RowKit

/-- -1, 0, 1. -/
def cmpN (u v : Nat) : Int := if u < v then -1 else if v < u then 1 else 0

theorem div_B (v i : Nat) : v / B i = v / B (i + 1) * 4294967296 + dig v i := by
  unfold dig
  rw [B_succ, ← Nat.div_div_eq_div_mul, Nat.mul_comm, Nat.div_add_mod]
theorem lt_of_dig_lt {u v i : Nat} (h : u / B (i + 1) = v / B (i + 1)) (hd : dig u i < dig v i) : u < v := by
  have h1 := div_B u i
  have h2 := div_B v i
  rcases Nat.lt_or_ge u v with h3 | h3
  · exact h3
  · have := Nat.div_le_div_right (c := B i) h3
    omega
theorem lt_of_wc_lt {u v : Nat} (h : wc u < wc v) : u < v := Nat.lt_of_lt_of_le (lt_wc u) (le_of_wc h)

set_option maxHeartbeats 1000000 in
theorem cmp_any (A A2 : Option Addr) (c c2 u v : Nat) (w : World) (hR : Row32 w A (wc u) (dig u)) (hR2 : Row32 w A2 (wc v) (dig v)) (hu : wc u ≤ 1000000) (_hv : wc v ≤ 1000000) :
    Calls Tryd.prog 111 #[.slice A (wc u) c, .slice A2 (wc v) c2] w fun e w' => Below w.heap.size w w' ∧ e = .returned (.int .i64 (cmpN u v)) := by
  by_cases hne : wc u = wc v
  · have HR := Lib.hid hR
    have HR2 := Lib.hid hR2
    have h0 : Hid (u / B (wc u) = v / B (wc u)) := by
      show _ = _
      rw [Nat.div_eq_of_lt (lt_wc u), hne, Nat.div_eq_of_lt (lt_wc v)]
    rw [← hne] at HR2 ⊢
    clear hR hR2 hne
    generalize wc u = n at *
    go_enter Tryd.func111, Tryd.ntmps111
    go_wp2_with fail
    go_loopg [5] n (fun gk v5 wr => gk ≤ n ∧ v5 = .int .i64 ((gk : Int) - 1) ∧ u / B gk = v / B gk ∧ Below w.heap.size w wr)
    case atStart => exact ⟨Nat.le_refl _, rfl, h0.out, Below.refl _ _⟩
    case round =>
      obtain ⟨hk, rfl, he, hBe⟩ := hrel
      have HBe := Lib.hid hBe
      have HE := Lib.hid he
      clear hBe he
      rcases gk with _ | k
      · go_wp2_with fail
        have : cmpN u v = 0 := by
          have := HE.out
          rw [B_zero, Nat.div_one, Nat.div_one] at this
          unfold cmpN
          rw [if_neg (by omega), if_neg (by omega)]
        go_ret
        rw [this]
        exact ⟨HBe.out, rfl⟩
      · obtain ⟨b, off, rfl, hb, hcell⟩ := (HR.out.below HBe.out) (by omega)
        obtain ⟨b2, off2, rfl, hb2, hcell2⟩ := (HR2.out.below HBe.out) (by omega)
        have c1 := hcell k (by omega)
        have c2 := hcell2 k (by omega)
        have HD := Lib.hid (show dig u k < dig v k → u < v from fun h => lt_of_dig_lt HE.out h)
        have HD2 := Lib.hid (show dig v k < dig u k → v < u from fun h => lt_of_dig_lt HE.out.symm h)
        have HD3 := Lib.hid (show dig u k = dig v k → u / B k = v / B k from fun h => by rw [div_B u, div_B v, h, HE.out])
        clear hcell hcell2 HE
        generalize dig u k = x at *
        generalize dig v k = y at *
        rcases Nat.lt_trichotomy x y with hlt | heq | hgt
        · have z1 : ((x : Int) != y) = true := by simp; omega
          have hc : cmpN u v = -1 := by
            unfold cmpN
            rw [if_pos (HD.out hlt)]
          go_wp2_with fail
          go_quiet (fail)
          go_wp2_with fail
          go_quiet (fail)
          go_wp2_with fail
          go_ret
          rw [hc]
          exact ⟨below_drewN (below_drewN HBe.out _) _, rfl⟩
        · subst heq
          have z1 : ((x : Int) != x) = false := by simp
          go_wp2_with fail
          go_quiet (fail)
          go_wp2_with fail
          go_roundg k
          case measure => omega
          case rel => exact ⟨by omega, rfl, HD3.out trivial, below_drewN HBe.out _⟩
        · have z1 : ((x : Int) != y) = true := by simp; omega
          have hc : cmpN u v = 1 := by
            unfold cmpN
            have := HD2.out hgt
            rw [if_neg (by omega), if_pos this]
          go_wp2_with fail
          go_quiet (fail)
          go_wp2_with fail
          go_quiet (fail)
          go_wp2_with fail
          go_ret
          rw [hc]
          exact ⟨below_drewN (below_drewN HBe.out _) _, rfl⟩
  · rcases Nat.lt_or_gt_of_ne hne with hlt | hgt
    · have hc : cmpN u v = -1 := by
        unfold cmpN
        rw [if_pos (lt_of_wc_lt hlt)]
      rw [hc]
      clear hR hR2 hc
      generalize wc u = m at *
      generalize wc v = n at *
      have z : ((m : Int) != n) = true := by simp; omega
      go_enter Tryd.func111, Tryd.ntmps111
      go_wp2_with fail
      go_ret
      exact ⟨Below.refl _ _, rfl⟩
    · have hc : cmpN u v = 1 := by
        unfold cmpN
        have := lt_of_wc_lt hgt
        rw [if_neg (by omega), if_pos this]
      rw [hc]
      clear hR hR2 hc
      generalize wc u = m at *
      generalize wc v = n at *
      have z : ((m : Int) != n) = true := by simp; omega
      go_enter Tryd.func111, Tryd.ntmps111
      go_wp2_with fail
      go_ret
      exact ⟨Below.refl _ _, rfl⟩

/-- How many bits v has. -/
def bl (v : Nat) : Nat := if v = 0 then 0 else Nat.log2 v + 1
theorem bl_half {t : Nat} (h : 0 < t) : bl t = bl (t / 2) + 1 := by
  unfold bl
  rw [if_neg (by omega)]
  by_cases h2 : t / 2 = 0
  · rw [if_pos h2]
    obtain rfl : t = 1 := by omega
    rfl
  · rw [if_neg h2]
    have : Nat.log2 t = Nat.log2 (t / 2) + 1 := by
      rw [Nat.log2_def t, if_pos (by omega)]
    omega
theorem bl_le {t n : Nat} (h : t < 2 ^ n) : bl t ≤ n := by
  unfold bl
  by_cases h0 : t = 0
  · rw [if_pos h0]; omega
  · rw [if_neg h0]
    have h1 : 2 ^ Nat.log2 t ≤ t := Nat.log2_self_le h0
    have := (Nat.pow_lt_pow_iff_right (a := 2) (by omega)).1 (Nat.lt_of_le_of_lt h1 h)
    omega
theorem lt_bl (t : Nat) : t < 2 ^ bl t := by
  unfold bl
  by_cases h0 : t = 0
  · rw [if_pos h0, h0]; exact Nat.one_pos
  · rw [if_neg h0]; exact Nat.lt_log2_self
theorem le_of_bl {t n : Nat} (h : n < bl t) : 2 ^ n ≤ t := by
  rcases Nat.lt_or_ge t (2 ^ n) with h1 | h1
  · have := bl_le h1; omega
  · exact h1
theorem bl_eq {t n : Nat} (h1 : 2 ^ n ≤ t) (h2 : t < 2 ^ (n + 1)) : bl t = n + 1 := by
  have := bl_le h2
  have h3 := lt_bl t
  have := (Nat.pow_lt_pow_iff_right (a := 2) (by omega)).1 (Nat.lt_of_le_of_lt h1 h3)
  omega
theorem bl_words {v n : Nat} (h : wc v = n + 1) : bl v = n * 32 + bl (dig v n) := by
  have h0 := top_dig h
  have h1 := lt_wc v
  rw [h] at h1
  have hd := dig_top v n h1
  obtain ⟨k, hk⟩ : ∃ k, bl (dig v n) = k + 1 := ⟨bl (dig v n) - 1, by
    have : 0 < bl (dig v n) := by unfold bl; rw [if_neg h0]; omega
    omega⟩
  have h2 : 2 ^ k ≤ dig v n := le_of_bl (by omega)
  have h3 : dig v n < 2 ^ (k + 1) := by rw [← hk]; exact lt_bl _
  rw [hd] at h2 h3
  rw [hk, show n * 32 + (k + 1) = (32 * n + k) + 1 by omega]
  apply bl_eq
  · rw [Nat.pow_add, Nat.mul_comm]
    exact (Nat.le_div_iff_mul_le (B_pos n)).1 h2
  · rw [show 32 * n + k + 1 = 32 * n + (k + 1) by omega, Nat.pow_add, Nat.mul_comm]
    exact (Nat.div_lt_iff_lt_mul (B_pos n)).1 h3

theorem ret_num {k : IntKind} {a b : Int} (h : a = b) : Ending.returned (.int k a) = .returned (.int k b) := by rw [h]

set_option maxHeartbeats 1000000 in
theorem length_any (A : Option Addr) (c v : Nat) (w : World) (hR : Row32 w A (wc v) (dig v)) (hv : wc v ≤ 1000000) :
    Calls Tryd.prog 120 #[.slice A (wc v) c] w fun e w' => w' = w ∧ e = .returned (.int .i64 (bl v : Nat)) := by
  rcases hn : wc v with _ | n
  · have hv0 : v = 0 := by
      rcases Nat.eq_zero_or_pos v with h | h
      · exact h
      · have := wc_pos h; omega
    subst hv0
    clear hR
    go_enter Tryd.func120, Tryd.ntmps120
    go_wp2_with fail
    go_ret
    exact ⟨rfl, rfl⟩
  · have hb := Lib.hid (bl_words hn)
    rw [hn] at hR hv
    obtain ⟨b, off, rfl, hb0, hcell⟩ := hR (by omega)
    have c0 := hcell n (by omega)
    have hd := dig_lt v n
    clear hcell hR
    rw [hb.out]
    clear hb
    have h32 := bl_le (n := 32) hd
    generalize dig v n = d at *
    go_enter Tryd.func120, Tryd.ntmps120
    go_wp2_with fail
    go_loop [3, 4] (fun v3 v4 => ∃ k t : Nat, v3 = .int .i64 k ∧ v4 = .int .u32 t ∧ t < 4294967296 ∧ k + bl t = bl d) (fun v3 v4 => (intOf v4).toNat)
    case atStart => exact ⟨0, d, rfl, rfl, hd, by omega⟩
    case round =>
      obtain ⟨k, t, rfl, rfl, ht, hk⟩ := hrel
      by_cases h0 : t = 0
      · subst h0
        have hk' : k = bl d := by rw [← hk]; rfl
        subst hk'
        clear hk
        go_wp2_with fail
        go_ret
        exact ⟨rfl, ret_num rfl⟩
      · have z : ((t : Int) != 0) = true := by simp; omega
        have hh := bl_half (t := t) (by omega)
        go_wp2_with fail
        exact ⟨⟨k + 1, t / 2, by go_num, by go_num, by omega, by omega⟩, by simp [intOf]; omega⟩

theorem and64_one (m : Nat) (hm : m < 18446744073709551616) : bits .and .u64 (m : Int) 1 = ((m % 2 : Nat) : Int) := by
  have h := u64_and_nat m 1 hm (by omega)
  rw [Nat.and_one_is_mod] at h
  exact h
theorem and32_one (m : Nat) (hm : m < 4294967296) : bits .and .u32 (m : Int) 1 = ((m % 2 : Nat) : Int) := by
  have h := u32_and_nat m 1 hm (by omega)
  rw [Nat.and_one_is_mod] at h
  exact h

theorem half_pow {d j t : Nat} (hd : d = 2 ^ j * t) (ht : t % 2 = 0) (ht0 : 0 < t) (hlt : d < 4294967296) : d = 2 ^ (j + 1) * (t / 2) ∧ j + 1 < 32 := by
  have e : d = 2 ^ (j + 1) * (t / 2) := by
    rw [hd, Nat.pow_succ, Nat.mul_assoc, show 2 * (t / 2) = t by omega]
  refine ⟨e, ?_⟩
  have h1 : 2 ^ (j + 1) ≤ d := by
    rw [e]
    exact Nat.le_mul_of_pos_right _ (by omega)
  exact (Nat.pow_lt_pow_iff_right (a := 2) (by omega)).1 (Nat.lt_of_le_of_lt h1 hlt)

set_option maxHeartbeats 1000000 in
theorem bit_zero (A : Option Addr) (c v : Nat) (w : World) (hR : Row32 w A (wc v) (dig v)) (hv : wc v ≤ 1000000) :
    Calls Tryd.prog 118 #[.slice A (wc v) c, .int .i64 0] w fun e w' => w' = w ∧ e = .returned (.int .u64 (v % 2 : Nat)) := by
  rcases hn : wc v with _ | n
  · have hv0 : v = 0 := by
      rcases Nat.eq_zero_or_pos v with h | h
      · exact h
      · have := wc_pos h; omega
    subst hv0
    clear hR
    go_enter Tryd.func118, Tryd.ntmps118
    go_wp2_with fail
    go_ret
    exact ⟨rfl, rfl⟩
  · rw [hn] at hR hv
    obtain ⟨b, off, rfl, hb0, hcell⟩ := hR (by omega)
    have c0 := hcell 0 (by omega)
    rw [Nat.add_zero] at c0
    have hd := dig_lt v 0
    have hm : v % 2 = dig v 0 % 2 := by rw [dig_low]; omega
    rw [hm]
    clear hcell hR hm
    generalize dig v 0 = d at *
    go_enter Tryd.func118, Tryd.ntmps118
    go_wp2_with fail
    go_ret
    exact ⟨rfl, ret_num (and64_one d (by omega))⟩

/-- 2 to the power of t divides v just t times. -/
def Twos (v t : Nat) : Prop := ∃ o, v = 2 ^ t * o ∧ o % 2 = 1

theorem twos_end {v k d j t : Nat} (h : v % B (k + 1) = d * B k) (hd : d = 2 ^ j * t) (ht : t % 2 = 1) (hlt : d < 4294967296) : Twos v (32 * k + j) := by
  have hj : j < 32 := by
    have h1 : 2 ^ j ≤ d := by rw [hd]; exact Nat.le_mul_of_pos_right _ (by omega)
    exact (Nat.pow_lt_pow_iff_right (a := 2) (by omega)).1 (Nat.lt_of_le_of_lt h1 hlt)
  have hv := Nat.div_add_mod v (B (k + 1))
  rw [h, B_succ] at hv
  have e1 : 2 ^ (32 * k + j) = B k * 2 ^ j := by rw [Nat.pow_add]; rfl
  have e2 : 4294967296 = 2 ^ j * (2 ^ (31 - j) * 2) := by rw [← Nat.pow_succ, ← Nat.pow_add, show j + (31 - j).succ = 32 by omega]
  refine ⟨t + v / (B k * 4294967296) * (2 ^ (31 - j) * 2), ?_, ?_⟩
  · rw [e1]
    generalize v / (B k * 4294967296) = q at *
    generalize 2 ^ (31 - j) * 2 = Q at *
    generalize 2 ^ j = P at *
    generalize B k = K at *
    rw [← hv, hd, e2]
    grind
  · rw [← Nat.mul_assoc, Nat.add_mul_mod_self_right]; exact ht

set_option maxHeartbeats 1000000 in
theorem twos_any (A : Option Addr) (c v : Nat) (w : World) (hR : Row32 w A (wc v) (dig v)) (hv : wc v ≤ 1000000) (h0 : 0 < v) :
    Calls Tryd.prog 135 #[.slice A (wc v) c] w fun e w' => w' = w ∧ ∃ t, e = .returned (.int .u64 (t : Nat)) ∧ Twos v t := by
  have hn := wc_pos h0
  have hb := lt_wc v
  have HV := Lib.hid (fun i => mod_B v i)
  have HL := Lib.hid (fun h : v % B (wc v) = 0 => by rw [Nat.mod_eq_of_lt hb] at h; omega : v % B (wc v) = 0 → False)
  obtain ⟨b, off, rfl, hb0, hcell⟩ := hR hn
  have HC := Lib.hid hcell
  have HD := Lib.hid (dig_lt v)
  clear hR hcell hb
  generalize hgn : wc v = n at *
  clear hgn
  go_enter Tryd.func135, Tryd.ntmps135
  go_wp2_with fail
  go_loop [3, 4] (fun v3 v4 => ∃ k : Nat, v3 = .int .u64 ((32 * k : Nat) : Int) ∧ v4 = .int .i64 k ∧ k < n ∧ v % B k = 0) (fun v3 v4 => n - (intOf v4).toNat)
  case atStart => exact ⟨0, rfl, rfl, hn, by rw [B_zero, Nat.mod_one]⟩
  case round =>
    obtain ⟨k, rfl, rfl, hk, hm⟩ := hrel
    have c0 := HC.out k hk
    have hd := HD.out k
    have hx := HV.out k
    rw [hm] at hx
    have HX := Lib.hid hx
    have HM := Lib.hid hm
    clear hx hm
    generalize dig v k = d at *
    by_cases hz : d = 0
    · subst hz
      go_wp2_with fail
      have hm2 : v % B (k + 1) = 0 := by have := HX.out; simpa using this
      have hk2 : k + 1 < n := by
        rcases Nat.lt_or_ge (k + 1) n with h | h
        · exact h
        · exfalso
          have e : k + 1 = n := by omega
          rw [e] at hm2
          exact HL.out hm2
      exact ⟨⟨k + 1, by go_num, by go_num, hk2, hm2⟩, by simp [intOf]; omega⟩
    · have z : ((d : Int) == 0) = false := by simp; omega
      go_wp2_with fail
      have hx := HX.out
      rw [Nat.zero_add] at hx
      have HX2 := Lib.hid hx
      clear hx HX HC HD HV HL HM z c0
      go_loop [3, 5] (fun v3 v5 => ∃ j t : Nat, v3 = .int .u64 ((32 * k + j : Nat) : Int) ∧ v5 = .int .u32 t ∧ 0 < t ∧ t < 4294967296 ∧ d = 2 ^ j * t ∧ j < 32) (fun v3 v5 => (intOf v5).toNat)
      case atStart => exact ⟨0, d, by go_num, rfl, by omega, hd, by rw [Nat.pow_zero, Nat.one_mul], by omega⟩
      case round =>
        obtain ⟨j, t, rfl, rfl, ht0, ht, hdt, hj⟩ := hrel
        have ha := and32_one t ht
        have HDT := Lib.hid hdt
        clear hdt
        rcases Nat.mod_two_eq_zero_or_one t with h2 | h2
        · rw [h2] at ha
          go_wp2_with fail
          refine ⟨⟨j + 1, t / 2, by go_num, by go_num, by omega, by omega, half_pow HDT.out h2 ht0 hd⟩, by simp [intOf]; omega⟩
        · rw [h2] at ha
          go_wp2_with fail
          go_ret
          exact ⟨rfl, 32 * k + j, rfl, twos_end HX2.out HDT.out h2 hd⟩
end Go.Proofs.YtjjfkidddjcdcaaDoor
