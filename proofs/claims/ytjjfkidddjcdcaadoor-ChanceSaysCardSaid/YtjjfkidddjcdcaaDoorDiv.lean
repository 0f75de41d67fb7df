/- Proved here: the contract of package enclosurebig's small at this program. Conditions: as each theorem says.
   Proved here: plain facts on the division of words by a power of two, word by word from above. Conditions: as each theorem says.
   Proved here: what the builtin copy does with words of 32 bits, into a row that the call made. Conditions: as each theorem says.
   Proved here: the contract of package enclosurebig's div at this program, where the divisor is one word or a power of two. Conditions: as each theorem says. -/
import Derived.Test.YtjjfkidddjcdcaaDoorBigMul
import Derived.Laws.IdiomCopy
namespace Go.Proofs.YtjjfkidddjcdcaaDoor
open Go.ChangeShapes Go.WideShapes Go.ChangeAt Go.RowKit

theorem or_word2 (x0 x1 : Nat) (h0 : x0 < 4294967296) (h1 : x1 < 4294967296) : bits .or .u64 ((x1 : Int) * 4294967296) (x0 : Int) = ((x1 * 4294967296 + x0 : Nat) : Int) := by
  have h := u64_or_nat (x1 * 4294967296) x0 (by omega) (by omega)
  rw [nat_join 32 _ x0 (Nat.mul_mod_left _ _) (by omega)] at h
  exact h

theorem div_step (v d i : Nat) (hd : 0 < d) : v / B i % d = (v / B (i + 1) % d * 4294967296 + dig v i) % d ∧ dig (v / d) i = (v / B (i + 1) % d * 4294967296 + dig v i) / d := by
  have h := div_B v i
  have hx := dig_lt v i
  have hr := Nat.mod_lt (v / B (i + 1)) hd
  have hm := Nat.div_add_mod (v / B (i + 1)) d
  have e1 : dig (v / d) i = v / B i / d % 4294967296 := by
    unfold dig
    rw [Nat.div_div_eq_div_mul, Nat.div_div_eq_div_mul, Nat.mul_comm d]
  rw [e1, h]
  generalize v / B (i + 1) = V at *
  generalize dig v i = x at *
  generalize V / d = Q at *
  generalize V % d = r at *
  have e2 : V * 4294967296 + x = (r * 4294967296 + x) + d * (Q * 4294967296) := by
    rw [← hm, Nat.add_mul, Nat.mul_assoc]
    omega
  have h3 : (r * 4294967296 + x) / d < 4294967296 := by
    rw [Nat.div_lt_iff_lt_mul hd]
    omega
  rw [e2]
  refine ⟨by rw [Nat.add_mul_mod_self_left], ?_⟩
  rw [Nat.add_mul_div_left _ _ hd, Nat.add_mul_mod_self_right, Nat.mod_eq_of_lt h3]

theorem quo_cast (z d : Nat) (h : z / d < 4294967296) : IntKind.u64.wrap ((z : Int) / d) % 4294967296 = ((z / d : Nat) : Int) := by
  rw [← Int.natCast_ediv, wrap_u64_nat _ (by omega)]
  generalize z / d = t at *
  omega

def SmallRel (v d n g b : Nat) (w : World) (gk : Nat) (v7 v8 : Value) (wr : World) : Prop :=
  gk ≤ n ∧ v8 = .int .i64 ((gk : Int) - 1) ∧ v7 = .int .u64 (v / B gk % d : Nat) ∧ wr.rowIs g 138 n (fun j => .int .u32 ((if gk ≤ j then dig (v / d) j else 0 : Nat) : Nat)) ∧ Below b w wr

set_option maxRecDepth 100000 in
set_option maxHeartbeats 2000000 in
theorem small_any (A : Option Addr) (c v d : Nat) (w : World) (hR : Row32 w A (wc v) (dig v)) (hv : wc v ≤ 100000) (hd : 0 < d) (hd2 : d < 4294967296) :
    Calls Tryd.prog 133 #[.slice A (wc v) c, .int .u32 d] w fun e w' => Below w.heap.size w w' ∧ ∃ s, e = .returned (.tuple #[s, .int .u32 (v % d : Nat)]) ∧ Num w' s (v / d) := by
  have HV := Lib.hid (lt_wc v)
  have HR := Lib.hid hR
  clear hR
  generalize wc v = n at *
  have hmk : ∀ w : World, (Instr.makeSlice 99 (.int .i64 (n : Int)) (.int .i64 (n : Int))).run Tryd.prog w = .ok (.slice (some ⟨w.heap.size, 0, none⟩) n n) (w.alloc (.cells (madeCells #[.int .u32 0] n) 138)) := fun w => make_words w n (by omega)
  go_enter Tryd.func133, Tryd.ntmps133
  go_wp2_with fail
  have hR0 : (w.alloc (.cells (madeCells #[.int .u32 0] n) 138)).rowIs w.heap.size 138 n (fun j => .int .u32 ((if n ≤ j then dig (v / d) j else 0 : Nat) : Nat)) := (World.rowIs_made w _ n 138).congr (fun j _ => by rw [if_neg (by omega)]; rfl)
  have hS0 : SmallRel v d n w.heap.size w.heap.size w n (.int .u64 0) (.int .i64 ((n : Int) - 1)) (w.alloc (.cells (madeCells #[.int .u32 0] n) 138)) :=
    ⟨Nat.le_refl _, rfl, by rw [Nat.div_eq_of_lt HV.out, Nat.zero_mod]; rfl, hR0, (Below.refl _ _).alloc (Nat.le_refl _) _⟩
  have HS := Lib.hid hS0
  clear hS0 hR0 hmk
  generalize w.alloc (.cells (madeCells #[.int .u32 0] n) 138) = W1 at *
  obtain ⟨g, hge⟩ : ∃ g, w.heap.size = g := ⟨_, rfl⟩
  rw [hge] at HS ⊢
  have hgw : w.heap.size ≤ g := by omega
  clear hge
  go_loopg [7, 8] n (fun gk v7 v8 wr => SmallRel v d n g g w gk v7 v8 wr)
  case atStart => exact HS.out
  case round =>
    clear HS
    obtain ⟨hk, rfl, rfl, hRow, hBe⟩ := hrel
    have HRow := Lib.hid hRow
    have HBe := Lib.hid hBe
    rcases gk with _ | k
    · have hlt2 : v / d < B n := Nat.lt_of_le_of_lt (Nat.div_le_self _ _) HV.out
      have hr := Nat.mod_lt v hd
      have hR32 := (Row32.ofIs HRow.out).congr (g := dig (v / d)) (fun j hj => by rw [if_pos (Nat.zero_le _)])
      have C := Lib.hid (trim_any (some ⟨g, 0, none⟩) n n (v / d) wr hR32 hlt2 (Nat.le_refl _) (by omega))
      rw [B_zero, Nat.div_one]
      obtain ⟨R, hRe⟩ : ∃ R, v % d = R := ⟨_, rfl⟩
      rw [hRe] at hr ⊢
      have HRe := Lib.hid hRe
      clear hRe
      clear hRow hBe hR32 HRow hlt2 HR HV
      have hre : (R : Int) % 4294967296 = R := by omega
      go_wp2_with fail
      refine C.out.mono ?_
      rintro e w2 ⟨rfl, s2, rfl, hs2⟩
      go_wp2_with fail
      go_ret2
      exact ⟨HBe.out.mono (by omega), s2, by rw [HRe.out]; rfl, hs2⟩
    · obtain ⟨b, off, rfl, hb, hcell⟩ := HR.out (by omega)
      have c0 : wr.cell? ⟨b, off + k, none⟩ = some (.int .u32 (dig v k : Nat)) := (hBe.cell (p := ⟨b, off + k, none⟩) (Nat.lt_of_lt_of_le hb hgw)).trans (hcell k (by omega))
      have ce := hRow.cell (i := k) (by omega)
      have fe := hRow.frozen k
      have hx := dig_lt v k
      obtain ⟨s1, s2⟩ := div_step v d k hd
      have hr := Nat.mod_lt (v / B (k + 1)) hd
      have hq := dig_lt (v / d) k
      rw [s2] at hq
      have HS1 := Lib.hid s1
      have HS2 := Lib.hid s2
      clear s1 s2 hRow hBe hcell
      generalize v / B (k + 1) % d = r at *
      generalize dig v k = x at *
      have ho := or_word2 x r hx (by omega)
      obtain ⟨z, hz⟩ : ∃ z, r * 4294967296 + x = z := ⟨_, rfl⟩
      have hzb : z < 18446744073709551616 := by omega
      rw [hz] at ho HS1 HS2 hq
      clear hz
      go_wp2_with fail
      go_roundg k
      case measure => omega
      case rel =>
        refine ⟨by omega, by go_num, ?_, (HRow.out.set k _).congr (fun j hj => ?_), HBe.out.setCell (Nat.le_refl _) _⟩
        · rw [HS1.out]
          exact int_cast_eq (by rw [Int.natCast_emod])
        · by_cases e : j = k
          · rw [if_pos e, e, if_pos (Nat.le_refl _), HS2.out]
            exact int_cast_eq (quo_cast z d hq)
          · rw [if_neg e]
            by_cases h2 : k + 1 ≤ j
            · rw [if_pos h2, if_pos (by omega)]
            · rw [if_neg h2, if_neg (by omega)]
end Go.Proofs.YtjjfkidddjcdcaaDoor

namespace Go.Proofs.YtjjfkidddjcdcaaDoor
open Go.RowKit

/-- The divisor's words: 2^31 above, below it noughts. -/
def topV (N : Nat) : Nat := 2147483648 * B N
theorem topV_pos (N : Nat) : 0 < topV N := Nat.mul_pos (by omega) (B_pos N)
theorem topV_add (N j : Nat) : topV N * B j = topV (N + j) := by
  unfold topV
  rw [Nat.mul_assoc, ← B_add]
theorem topV_succ (N : Nat) : topV (N + 1) = topV N * 4294967296 := by
  unfold topV
  rw [B_succ, Nat.mul_assoc]
theorem topV_lt (N : Nat) : topV N < B (N + 1) := by
  unfold topV
  have := B_pos N
  rw [B_succ]
  omega
theorem dig_topV_low (N i : Nat) (h : i < N) : dig (topV N) i = 0 := by
  have := dig_add_high 0 2147483648 N i h
  rw [Nat.zero_add] at this
  exact this.trans (by unfold dig; simp)
theorem dig_topV_top (N : Nat) : dig (topV N) N = 2147483648 := by
  unfold dig topV
  rw [Nat.mul_div_cancel _ (B_pos N)]
theorem wc_topV (N : Nat) : wc (topV N) = N + 1 := wc_eq (topV_lt N) (by rw [dig_topV_top]; omega)

/-- One round: what is left, W, below 2^31 in its word K + 1; the word of the quotient; what is left then. -/
theorem div_round (W K : Nat) (hW : W < topV (K + 1)) :
    dig W (K + 1) < 2147483648 ∧ W / topV K = (dig W (K + 1) * 4294967296 + dig W K) / 2147483648 ∧
    (∀ i, dig (W % topV K) i = if i = K then (dig W (K + 1) * 4294967296 + dig W K) % 2147483648 else if i = K + 1 then 0 else dig W i) := by
  have h1 : W < B (K + 2) := Nat.lt_trans hW (topV_lt _)
  have h2 : dig W (K + 1) = W / B (K + 1) := dig_top W (K + 1) h1
  have h3 : W / B (K + 1) < 2147483648 := by
    rw [Nat.div_lt_iff_lt_mul (B_pos _)]
    exact hW
  have h4 := div_B W K
  rw [← h2] at h4
  have h5 : W / topV K = W / B K / 2147483648 := by
    unfold topV
    rw [Nat.div_div_eq_div_mul, Nat.mul_comm]
  have hWm : W % topV K = W % B K + (W / B K % 2147483648) * B K := by
    unfold topV
    rw [Nat.mul_comm, Nat.mod_mul, Nat.mul_comm (B K)]
  refine ⟨by omega, by rw [h5, h4], fun i => ?_⟩
  rw [hWm, h4]
  obtain ⟨r, hr⟩ : ∃ r, (dig W (K + 1) * 4294967296 + dig W K) % 2147483648 = r := ⟨_, rfl⟩
  have hr2 : r < 2147483648 := by omega
  rw [hr]
  have hlo := Nat.mod_lt W (B_pos K)
  by_cases e1 : i = K
  · subst e1
    rw [if_pos rfl]
    unfold dig
    rw [Nat.add_mul_div_right _ _ (B_pos i), Nat.div_eq_of_lt hlo, Nat.zero_add, Nat.mod_eq_of_lt (by omega)]
  · rw [if_neg e1]
    rcases Nat.lt_or_ge i K with e | e
    · rw [if_neg (by omega), dig_add_high _ _ _ _ e]
      have := dig_add_high (W % B K) (W / B K) K i e
      rw [← this, Nat.mul_comm, Nat.add_comm, Nat.div_add_mod]
    · have hlt : W % B K + r * B K < B (K + 1) := by
        rw [B_succ]
        have : r * B K ≤ 2147483647 * B K := Nat.mul_le_mul_right _ (by omega)
        omega
      have hge : W % B K + r * B K < B i := Nat.lt_of_lt_of_le hlt (B_le (by omega))
      have z : dig (W % B K + r * B K) i = 0 := by unfold dig; rw [Nat.div_eq_of_lt hge]
      rw [z]
      by_cases e2 : i = K + 1
      · rw [if_pos e2]
      · rw [if_neg e2]
        unfold dig
        rw [Nat.div_eq_of_lt (Nat.lt_of_lt_of_le h1 (B_le (by omega)))]

/-- The rounds' chain: U is divided by topV N. -/
def divW (U N j : Nat) : Nat := U % topV (N + j)
theorem divW_lt (U N j : Nat) : divW U N j < topV (N + j) := Nat.mod_lt _ (topV_pos _)
theorem divW_step (U N j : Nat) : divW U N (j + 1) % topV (N + j) = divW U N j ∧ divW U N (j + 1) / topV (N + j) = dig (U / topV N) j := by
  unfold divW
  rw [show N + (j + 1) = N + j + 1 from rfl, topV_succ]
  refine ⟨Nat.mod_mul_right_mod _ _ _, ?_⟩
  rw [Nat.mod_mul_right_div_self]
  unfold dig
  rw [Nat.div_div_eq_div_mul, topV_add]

/-- The divisor 2^k, moved left till its top word is full. -/
theorem shift_topV (k : Nat) : 2 ^ k * 2 ^ (31 - k % 32) = topV (k / 32) := by
  unfold topV B
  rw [show (2147483648 : Nat) = 2 ^ 31 from rfl, ← Nat.pow_add, ← Nat.pow_add]
  congr 1
  omega
theorem div_shift (a k : Nat) : a * 2 ^ (31 - k % 32) / topV (k / 32) = a / 2 ^ k ∧ a * 2 ^ (31 - k % 32) % topV (k / 32) / 2 ^ (31 - k % 32) = a % 2 ^ k := by
  rw [← shift_topV]
  have hp := Nat.two_pow_pos (31 - k % 32)
  refine ⟨Nat.mul_div_mul_right _ _ hp, ?_⟩
  rw [Nat.mul_mod_mul_right, Nat.mul_div_cancel _ hp]
theorem wc_pow (k : Nat) : wc (2 ^ k) = k / 32 + 1 := by
  unfold wc
  rw [if_neg (Nat.ne_of_gt (Nat.two_pow_pos k)), Nat.log2_two_pow]
theorem bl_pow (k : Nat) : bl (2 ^ k) = k + 1 := by
  unfold bl
  rw [if_neg (Nat.ne_of_gt (Nat.two_pow_pos k)), Nat.log2_two_pow]
/-- Moved left by less than a word, a number has at most one word more, and that one below 2^31. -/
theorem shifted_lt (a s m : Nat) (ha : a < B m) (hs : s ≤ 31) : a * 2 ^ s < topV m := by
  unfold topV
  have hP : 2 ^ s ≤ 2147483648 := PL.pow_bound s 31 hs
  have h1 : a * 2 ^ s < B m * 2 ^ s := Nat.mul_lt_mul_of_pos_right ha (Nat.two_pow_pos s)
  have h2 : B m * 2 ^ s ≤ B m * 2147483648 := Nat.mul_le_mul_left _ hP
  rw [Nat.mul_comm 2147483648]
  omega
end Go.Proofs.YtjjfkidddjcdcaaDoor

namespace Go.Proofs.YtjjfkidddjcdcaaDoor
open Go.ChangeShapes Go.WideShapes Go.ChangeAt Go.RowKit

theorem rowIs_setCells (g : Nat) (t : TypeId) (n : Nat) (k : Nat → Value) : ∀ (vs : List Value) (o : Nat) (w : World) (f : Nat → Value), w.rowIs g t n f → (∀ i, i < vs.length → vs[i]? = some (k (o + i))) →
    (w.setCells g o vs).rowIs g t n (fun j => if o ≤ j ∧ j < o + vs.length then k j else f j)
  | [], o, w, f, h, _ => h.congr (fun j _ => by rw [if_neg]; simp)
  | v :: r, o, w, f, h, e => by
    have e0 := e 0 (by simp)
    simp at e0
    refine (rowIs_setCells g t n k r (o + 1) _ _ (h.set o v) (fun i hi => ?_)).congr (fun j _ => ?_)
    · have := e (i + 1) (by simpa using hi)
      rw [show o + 1 + i = o + (i + 1) by omega]
      simpa using this
    · simp only [List.length_cons]
      by_cases h1 : o + 1 ≤ j ∧ j < o + 1 + r.length
      · rw [if_pos h1, if_pos (by omega)]
      · rw [if_neg h1]
        by_cases h2 : j = o
        · rw [if_pos h2, if_pos (by omega), h2, e0]
        · rw [if_neg h2, if_neg (by omega)]

theorem below_setCells {B g : Nat} {w0 : World} (hB : B ≤ g) : ∀ (vs : List Value) (o : Nat) (w : World), Below B w0 w → Below B w0 (w.setCells g o vs)
  | [], _, _, h => h
  | v :: r, o, _, h => below_setCells hB r (o + 1) _ (h.setCell hB v)

set_option maxRecDepth 100000 in
theorem copy_words (w : World) (g L n c : Nat) (A : Option Addr) (ty : TypeId) (f : Nat → Nat) (h : Nat → Value) (hg : w.rowIs g 138 L h) (hR : Row32 w A n f) (hn : n ≤ L) :
    ∃ w', (Builtin.copy_ #[99, 99] ty #[.slice (some ⟨g, 0, none⟩) L L, .slice A n c]).run Tryd.prog w = .ok (goInt n) w' ∧ w'.rowIs g 138 L (fun j => if j < n then .int .u32 (f j : Nat) else h j) ∧ (∀ B w0, B ≤ g → Below B w0 w → Below B w0 w') := by
  have hs : (Tryd.prog.info? 138).map (·.size) = some 1 := rfl
  rcases Nat.eq_zero_or_pos n with h0 | h0
  · subst h0
    exact ⟨w, run_copy_none w 99 99 ty 138 _ _ _ _ _ _ Tryd.underlying99 hs (Nat.zero_min _), hg.congr (fun j _ => by rw [if_neg (by omega)]), fun _ _ _ hb => hb⟩
  · obtain ⟨b, off, rfl, hb, hcell⟩ := hR h0
    refine ⟨w.setCells g 0 ((List.range n).map (fun j => .int .u32 (f j : Nat))), ?_, ?_, fun B w0 hB hb0 => below_setCells hB _ _ _ hb0⟩
    · have hrun := run_copy_cells (P := Tryd.prog) w 99 99 ty 138 g 0 L L ⟨b, off, none⟩ n c ((List.range n).map (fun j => .int .u32 (f j : Nat))) Tryd.underlying99 hs (by simpa using (Nat.min_eq_left hn).symm) (by
        intro j u hu
        rw [List.getElem?_map] at hu
        by_cases hj : j < n
        · rw [List.getElem?_range hj] at hu
          injection hu with hu
          rw [← hu, ← hcell j hj]
          by_cases h0 : j = 0 <;> simp [Addr.add, h0]
        · rw [List.getElem?_eq_none (by simpa using hj)] at hu
          cases hu) (by
        intro j hj
        rw [Nat.zero_add, hg.cell (i := j) (by simp at hj; omega)]; rfl) (by
        intro j _
        rw [Nat.zero_add]; exact hg.frozen j) (by
        intro u hu
        simp at hu
        obtain ⟨_, _, rfl⟩ := hu
        rfl)
      rw [hrun]
      simp
    · refine (rowIs_setCells g 138 L (fun j => .int .u32 (f j : Nat)) _ 0 w h hg (fun i hi => ?_)).congr (fun j _ => ?_)
      · simp at hi
        rw [List.getElem?_map, List.getElem?_range hi, Nat.zero_add]; rfl
      · simp

theorem wpList_copy {ops : Array Oper} {rest : List Oper} {o : Oper} {a : Act} {w : World} {Q : Exit → Act → World → Prop} (hgd : o.guard = none) (s x : Operand) (t : TypeId)
    (ho : o.op = .call { callee := .builtin .copy, args := #[s, x], argTypes := #[t, t] }) (v1 v2 v' : Value) (w' : World) (h1 : a.eval s = v1) (h2 : a.eval x = v2)
    (hrun : (Builtin.copy_ #[t, t] o.type #[v1, v2]).run Tryd.prog w = .ok v' w') (h : wpList Tryd.prog ops Q rest (a.put o.dst v') w') : wpList Tryd.prog ops Q (o :: rest) a w :=
  wpList_plain hgd fun _ hK => by
    unfold Oper.wp execOp
    simp only [ho, resolve, invoke, builtin, Sem.run_bind, Sem.run_pure, Result.andThen_ok, List.map_toArray, List.map_cons, List.map_nil, h1, h2, hrun]
    exact hK _ _ h
end Go.Proofs.YtjjfkidddjcdcaaDoor

namespace Go.Proofs.YtjjfkidddjcdcaaDoor
open Go.ChangeShapes Go.WideShapes Go.ChangeAt Go.RowKit

/-- What div gives back. -/
def DivOut (w : World) (u v : Nat) (e : Ending) (w' : World) : Prop := Below w.heap.size w w' ∧ ∃ s t, e = .returned (.tuple #[s, t]) ∧ Num w' s (u / v) ∧ Num w' t (u % v)

set_option maxRecDepth 100000 in
set_option maxHeartbeats 1000000 in
theorem div_less (A A2 : Option Addr) (c c2 u v : Nat) (w : World) (hR : Row32 w A (wc u) (dig u)) (hR2 : Row32 w A2 (wc v) (dig v)) (hu : wc u ≤ 100000) (hv : wc v ≤ 100000) (hlt : u < v) :
    Calls Tryd.prog 117 #[.slice A (wc u) c, .slice A2 (wc v) c2] w (DivOut w u v) := by
  have hn0 := wc_pos (show 0 < v by omega)
  have HQ := Lib.hid (Nat.div_eq_of_lt hlt)
  have HM := Lib.hid (Nat.mod_eq_of_lt hlt)
  have C1 := Lib.hid (cmp_any A A2 c c2 u v w hR hR2 (by omega) (by omega))
  rw [show cmpN u v = -1 from by unfold cmpN; rw [if_pos hlt]] at C1
  have C2 := Lib.hid (fun w' (hb : Below w.heap.size w w') => twin_any A c u w' (hR.below hb) (by omega))
  clear hR hR2 hlt
  go_enter Tryd.func117, Tryd.ntmps117
  go_wp2_with fail
  refine C1.out.mono ?_
  rintro e w1 ⟨hb1, rfl⟩
  go_wp2_with fail
  refine (C2.out w1 hb1).mono ?_
  rintro e w2 ⟨hb2, s, rfl, hs⟩
  go_wp2_with fail
  go_ret2
  refine ⟨hb1.trans (hb2.mono hb1.size), _, s, rfl, ?_, ?_⟩
  · rw [HQ.out]; exact Num.nil _
  · rw [HM.out]; exact hs

theorem wrap_quo (u v : Nat) (h : u / v < 18446744073709551616) : IntKind.u64.wrap ((u : Int) / v) = ((u / v : Nat) : Int) := by
  rw [← Int.natCast_ediv, wrap_u64_nat _ h]
theorem cmp_ge {u v : Nat} (h : v ≤ u) : 0 ≤ cmpN u v := by
  unfold cmpN
  rw [if_neg (by omega)]
  split <;> omega

set_option maxRecDepth 100000 in
set_option maxHeartbeats 1000000 in
theorem div_short (A A2 : Option Addr) (c c2 u v : Nat) (w : World) (hR : Row32 w A (wc u) (dig u)) (hR2 : Row32 w A2 (wc v) (dig v)) (hu : wc u ≤ 2) (h0 : 0 < v) (hle : v ≤ u) :
    Calls Tryd.prog 117 #[.slice A (wc u) c, .slice A2 (wc v) c2] w (DivOut w u v) := by
  have hn0 := wc_pos h0
  have hv : wc v ≤ 2 := Nat.le_trans (wc_mono hle) hu
  have hub : u < 18446744073709551616 := Nat.lt_of_lt_of_le (lt_wc u) (B_le hu)
  have hvb : v < 18446744073709551616 := by omega
  have C1 := Lib.hid (cmp_any A A2 c c2 u v w hR hR2 (by omega) (by omega))
  have hc := cmp_ge hle
  generalize cmpN u v = cm at *
  have C2 := Lib.hid (fun w' (hb : Below w.heap.size w w') => plain_any A c u w' (hR.below hb) hub)
  have C3 := Lib.hid (fun w' (hb : Below w.heap.size w w') => plain_any A2 c2 v w' (hR2.below hb) hvb)
  have hq := Nat.div_le_self u v
  have hm := Nat.mod_le u v
  have eq1 : IntKind.u64.wrap ((u : Int) / v) = ((u / v : Nat) : Int) := wrap_quo u v (by omega)
  have hv0 : ¬ v = 0 := by omega
  unfold DivOut
  generalize u / v = q at *
  clear hR hR2 hle
  generalize wc u = m at *
  generalize wc v = n at *
  go_enter Tryd.func117, Tryd.ntmps117
  go_wp2_with fail
  refine C1.out.mono ?_
  rintro e w1 ⟨hb1, rfl⟩
  go_wp2_with fail
  refine (C2.out w1 hb1).mono ?_
  rintro e w2 ⟨rfl, rfl⟩
  go_wp2_with fail
  refine (C3.out w2 hb1).mono ?_
  rintro e w3 ⟨rfl, rfl⟩
  go_wp2_with fail
  go_region_with (first | (go_at_call 112; refine (words_any _ _ (by omega)).mono ?_; rintro e w4 ⟨hb4, s, rfl, hs⟩))
  rename_i wa hba sa hsa
  go_wp2_with fail
  go_ret2
  have hba2 : Below w3.heap.size w3 wa := (Below.refl _ w3).drew.trans hba
  exact ⟨hb1.trans ((hba2.mono hb1.size).trans (hb4.mono (Nat.le_trans hb1.size hba2.size))), sa, s, rfl, hsa.below hb4, hs⟩

set_option maxRecDepth 100000 in
set_option maxHeartbeats 1000000 in
theorem div_one (A A2 : Option Addr) (c c2 u v : Nat) (w : World) (hR : Row32 w A (wc u) (dig u)) (hR2 : Row32 w A2 (wc v) (dig v)) (hu : 2 < wc u) (hu2 : wc u ≤ 100000) (h0 : 0 < v) (hvb : v < 4294967296) :
    Calls Tryd.prog 117 #[.slice A (wc u) c, .slice A2 (wc v) c2] w (DivOut w u v) := by
  have hv1 : wc v = 1 := by
    have := wc_pos h0
    have := wc_le (v := v) (n := 1) hvb
    omega
  have hle : v ≤ u := by
    have h1 := le_of_wc hu
    have h2 := lt_wc v
    have h3 := B_le (show wc v ≤ 2 by omega)
    omega
  have C1 := Lib.hid (cmp_any A A2 c c2 u v w hR hR2 (by omega) (by omega))
  have hc := cmp_ge hle
  generalize cmpN u v = cm at *
  have C2 := Lib.hid (fun w' (hb : Below w.heap.size w w') => small_any A c u v w' (hR.below hb) hu2 h0 hvb)
  obtain ⟨b, off, rfl, hb, hcell⟩ := hR2 (by omega)
  have c0 := hcell 0 (by omega)
  rw [dig_low, Nat.mod_eq_of_lt hvb, Nat.add_zero] at c0
  have CB : ∀ w', Below w.heap.size w w' → w'.cell? ⟨b, off, none⟩ = some (.int .u32 v) := fun w' hb' => (hb'.cell (p := ⟨b, off, none⟩) hb).trans c0
  have HB := Lib.hid CB
  rw [hv1] at C1 ⊢
  clear hR hR2 hle hcell CB c0 hv1
  unfold DivOut
  obtain ⟨r, hr⟩ : ∃ r, u % v = r := ⟨_, rfl⟩
  have hrb : r < 4294967296 := by rw [← hr]; exact Nat.lt_trans (Nat.mod_lt _ h0) hvb
  have HR0 := Lib.hid hr
  rw [hr] at C2 ⊢
  clear hr
  generalize wc u = m at *
  go_enter Tryd.func117, Tryd.ntmps117
  go_wp2_with fail
  refine C1.out.mono ?_
  rintro e w1 ⟨hb1, rfl⟩
  have c1 := HB.out w1 hb1
  go_wp2_with fail
  refine (C2.out w1 hb1).mono ?_
  rintro e w2 ⟨hb2, s, rfl, hs⟩
  go_wp2_with fail
  have hR32 : Row32 (w2.alloc (Obj.cells #[Value.int IntKind.u32 (r : Int)] 138)) (some ⟨w2.heap.size, 0, none⟩) 1 (dig r) := fun _ =>
    ⟨w2.heap.size, 0, rfl, by simp, fun j hj => by
      obtain rfl : j = 0 := by omega
      rw [dig_low, Nat.mod_eq_of_lt hrb]; simp [go_sem]⟩
  refine (trim_any _ 1 1 r _ hR32 (by show r < B 1; exact hrb) (by omega) (by omega)).mono ?_
  rintro e w3 ⟨rfl, t, rfl, ht⟩
  go_wp2_with fail
  go_ret2
  refine ⟨(hb1.trans (hb2.mono hb1.size)).alloc (Nat.le_trans hb1.size hb2.size) _, s, t, rfl, hs.below ((Below.refl _ _).alloc (Nat.le_refl _) _), ht⟩
end Go.Proofs.YtjjfkidddjcdcaaDoor
