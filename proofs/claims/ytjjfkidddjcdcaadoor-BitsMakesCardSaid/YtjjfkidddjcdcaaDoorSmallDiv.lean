/- Proved here: the contract of package enclosurebig's small at this program. Conditions: as each theorem says. -/
import Derived.Test.YtjjfkidddjcdcaaDoorBigMul
namespace Go.Proofs.YtjjfkidddjcdcaaDoor
open Go.ChangeShapes Go.WideShapes Go.ChangeAt Go.RowKit

theorem or_word2 (x0 x1 : Nat) (h0 : x0 < 4294967296) (h1 : x1 < 4294967296) : bits .or .u64 ((x1 : Int) * 4294967296) (x0 : Int) = ((x1 * 4294967296 + x0 : Nat) : Int) := by
  have h := u64_or_nat (x1 * 4294967296) x0 (by omega) (by omega)
  rw [nat_join 32 _ x0 (Nat.mul_mod_left _ _) (by omega)] at h
  exact h

theorem div_step (v d i : Nat) (hd : 0 < d) : v / B i % d = (v / B (i + 1) % d * 4294967296 + dig v i) % d ∧ dig (v / d) i = (v / B (i + 1) % d * 4294967296 + dig v i) / d := by
  have h := div_B v i
  have hx := dig_lt v i
  have hr := Nat.mod_lt (v / B (i + 1)) hd
  have hm := Nat.div_add_mod (v / B (i + 1)) d
  have e1 : dig (v / d) i = v / B i / d % 4294967296 := by
    unfold dig
    rw [Nat.div_div_eq_div_mul, Nat.div_div_eq_div_mul, Nat.mul_comm d]
  rw [e1, h]
  generalize v / B (i + 1) = V at *
  generalize dig v i = x at *
  generalize V / d = Q at *
  generalize V % d = r at *
  have e2 : V * 4294967296 + x = (r * 4294967296 + x) + d * (Q * 4294967296) := by
    rw [← hm, Nat.add_mul, Nat.mul_assoc]
    omega
  have h3 : (r * 4294967296 + x) / d < 4294967296 := by
    rw [Nat.div_lt_iff_lt_mul hd]
    omega
  rw [e2]
  refine ⟨by rw [Nat.add_mul_mod_self_left], ?_⟩
  rw [Nat.add_mul_div_left _ _ hd, Nat.add_mul_mod_self_right, Nat.mod_eq_of_lt h3]

theorem quo_cast (z d : Nat) (h : z / d < 4294967296) : IntKind.u64.wrap ((z : Int) / d) % 4294967296 = ((z / d : Nat) : Int) := by
  rw [← Int.natCast_ediv, wrap_u64_nat _ (by omega)]
  generalize z / d = t at *
  omega

def SmallRel (v d n g b : Nat) (w : World) (gk : Nat) (v7 v8 : Value) (wr : World) : Prop :=
  gk ≤ n ∧ v8 = .int .i64 ((gk : Int) - 1) ∧ v7 = .int .u64 (v / B gk % d : Nat) ∧ wr.rowIs g 138 n (fun j => .int .u32 ((if gk ≤ j then dig (v / d) j else 0 : Nat) : Nat)) ∧ Below b w wr

set_option maxRecDepth 100000 in
set_option maxHeartbeats 2000000 in
theorem small_any (A : Option Addr) (c v d : Nat) (w : World) (hR : Row32 w A (wc v) (dig v)) (hv : wc v ≤ 100000) (hd : 0 < d) (hd2 : d < 4294967296) :
    Calls Tryd.prog 133 #[.slice A (wc v) c, .int .u32 d] w fun e w' => Below w.heap.size w w' ∧ ∃ s, e = .returned (.tuple #[s, .int .u32 (v % d : Nat)]) ∧ Num w' s (v / d) := by
  have HV := Lib.hid (lt_wc v)
  have HR := Lib.hid hR
  clear hR
  generalize wc v = n at *
  have hmk : ∀ w : World, (Instr.makeSlice 99 (.int .i64 (n : Int)) (.int .i64 (n : Int))).run Tryd.prog w = .ok (.slice (some ⟨w.heap.size, 0, none⟩) n n) (w.alloc (.cells (madeCells #[.int .u32 0] n) 138)) := fun w => make_words w n (by omega)
  go_enter Tryd.func133, Tryd.ntmps133
  go_wp2_with fail
  have hR0 : (w.alloc (.cells (madeCells #[.int .u32 0] n) 138)).rowIs w.heap.size 138 n (fun j => .int .u32 ((if n ≤ j then dig (v / d) j else 0 : Nat) : Nat)) := (World.rowIs_made w _ n 138).congr (fun j _ => by rw [if_neg (by omega)]; rfl)
  have hS0 : SmallRel v d n w.heap.size w.heap.size w n (.int .u64 0) (.int .i64 ((n : Int) - 1)) (w.alloc (.cells (madeCells #[.int .u32 0] n) 138)) :=
    ⟨Nat.le_refl _, rfl, by rw [Nat.div_eq_of_lt HV.out, Nat.zero_mod]; rfl, hR0, (Below.refl _ _).alloc (Nat.le_refl _) _⟩
  have HS := Lib.hid hS0
  clear hS0 hR0 hmk
  generalize w.alloc (.cells (madeCells #[.int .u32 0] n) 138) = W1 at *
  obtain ⟨g, hge⟩ : ∃ g, w.heap.size = g := ⟨_, rfl⟩
  rw [hge] at HS ⊢
  have hgw : w.heap.size ≤ g := by omega
  clear hge
  go_loopg [7, 8] n (fun gk v7 v8 wr => SmallRel v d n g g w gk v7 v8 wr)
  case atStart => exact HS.out
  case round =>
    clear HS
    obtain ⟨hk, rfl, rfl, hRow, hBe⟩ := hrel
    have HRow := Lib.hid hRow
    have HBe := Lib.hid hBe
    rcases gk with _ | k
    · have hlt2 : v / d < B n := Nat.lt_of_le_of_lt (Nat.div_le_self _ _) HV.out
      have hr := Nat.mod_lt v hd
      have hR32 := (Row32.ofIs HRow.out).congr (g := dig (v / d)) (fun j hj => by rw [if_pos (Nat.zero_le _)])
      have C := Lib.hid (trim_any (some ⟨g, 0, none⟩) n n (v / d) wr hR32 hlt2 (Nat.le_refl _) (by omega))
      rw [B_zero, Nat.div_one]
      obtain ⟨R, hRe⟩ : ∃ R, v % d = R := ⟨_, rfl⟩
      rw [hRe] at hr ⊢
      have HRe := Lib.hid hRe
      clear hRe
      clear hRow hBe hR32 HRow hlt2 HR HV
      have hre : (R : Int) % 4294967296 = R := by omega
      go_wp2_with fail
      refine C.out.mono ?_
      rintro e w2 ⟨rfl, s2, rfl, hs2⟩
      go_wp2_with fail
      go_ret2
      exact ⟨HBe.out.mono (by omega), s2, by rw [HRe.out]; rfl, hs2⟩
    · obtain ⟨b, off, rfl, hb, hcell⟩ := HR.out (by omega)
      have c0 : wr.cell? ⟨b, off + k, none⟩ = some (.int .u32 (dig v k : Nat)) := (hBe.cell (p := ⟨b, off + k, none⟩) (Nat.lt_of_lt_of_le hb hgw)).trans (hcell k (by omega))
      have ce := hRow.cell (i := k) (by omega)
      have fe := hRow.frozen k
      have hx := dig_lt v k
      obtain ⟨s1, s2⟩ := div_step v d k hd
      have hr := Nat.mod_lt (v / B (k + 1)) hd
      have hq := dig_lt (v / d) k
      rw [s2] at hq
      have HS1 := Lib.hid s1
      have HS2 := Lib.hid s2
      clear s1 s2 hRow hBe hcell
      generalize v / B (k + 1) % d = r at *
      generalize dig v k = x at *
      have ho := or_word2 x r hx (by omega)
      obtain ⟨z, hz⟩ : ∃ z, r * 4294967296 + x = z := ⟨_, rfl⟩
      have hzb : z < 18446744073709551616 := by omega
      rw [hz] at ho HS1 HS2 hq
      clear hz
      go_wp2_with fail
      go_roundg k
      case measure => omega
      case rel =>
        refine ⟨by omega, by go_num, ?_, (HRow.out.set k _).congr (fun j hj => ?_), HBe.out.setCell (Nat.le_refl _) _⟩
        · rw [HS1.out]
          exact int_cast_eq (by rw [Int.natCast_emod])
        · by_cases e : j = k
          · rw [if_pos e, e, if_pos (Nat.le_refl _), HS2.out]
            exact int_cast_eq (quo_cast z d hq)
          · rw [if_neg e]
            by_cases h2 : k + 1 ≤ j
            · rw [if_pos h2, if_pos (by omega)]
            · rw [if_neg h2, if_neg (by omega)]
end Go.Proofs.YtjjfkidddjcdcaaDoor
