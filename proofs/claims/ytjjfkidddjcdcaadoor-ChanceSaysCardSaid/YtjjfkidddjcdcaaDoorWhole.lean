/- Proved here: the contract of the program's encode.
   Proved here: contracts of the program's Split, Join, Make.
   Proved here: contracts of the program's Join, Whole, Kind, Next. -/
import Derived.Test.YtjjfkidddjcdcaaDoorMul
import Derived.BigGuard
import Derived.Laws.Externs
namespace Go.Proofs.YtjjfkidddjcdcaaDoor
open Go.ChangeShapes Go.WideShapes Go.ChangeAt Go.RowKit

theorem below_drewN {B : Nat} {a w : World} (h : Below B a w) (n : Nat) : Below B a (w.drewN n) := ⟨h.os, h.tape, h.output, h.size, h.block⟩

theorem quiet_add_same {P : Program} {f : FuncId} {args : Array Value} {w : World} {a n : Nat} {v : Value}
    (h : Calls P f args (w.drewN (a + n)) fun e w' => e = .returned v ∧ w' = w.drewN (a + n)) :
    Calls P f args (w.drewN (a + n)) fun e w'' => e = .returned v ∧ ∃ m, w'' = w.drewN (a + m) :=
  h.mono fun _ _ ⟨he, hm⟩ => ⟨he, n, hm⟩

theorem PL.shl_succ (m k : Nat) : m <<< k * 2 = m <<< (k + 1) := by rw [Nat.shiftLeft_add, Nat.shiftLeft_eq _ 1]

theorem shl_ne (m k : Nat) (hm : m ≠ 0) : m <<< k ≠ 0 := by rw [Nat.shiftLeft_eq]; exact Nat.mul_ne_zero hm (Nat.ne_of_gt (Nat.two_pow_pos _))

theorem shl_bound (m k F : Nat) (hm : m ≠ 0) (hk : m.log2 + k ≤ F) (hF : F ≤ 52) : m <<< k < 9007199254740992 := by
  have : m <<< k < 2 ^ 53 := by
    rw [← Nat.log2_lt (shl_ne m k hm), PL.log2_shl m k hm]
    omega
  simpa using this

/-- The box of a form, and all that was there before. -/
def FormAt (w0 w : World) (E F : Nat) : Prop :=
  Below w0.heap.size w0 w ∧ w.cell? ⟨w0.heap.size, 0, none⟩ = some (.int .i64 E) ∧ w.cell? ⟨w0.heap.size, 1, none⟩ = some (.int .i64 F) ∧ w0.heap.size < w.heap.size

theorem FormAt.drewN {w0 w : World} {E F : Nat} (h : FormAt w0 w E F) (n : Nat) : FormAt w0 (w.drewN n) E F := ⟨below_drewN h.1 n, h.2.1, h.2.2.1, h.2.2.2⟩
theorem FormAt.new (w : World) (E F : Nat) : FormAt w (w.alloc (Obj.cells #[Value.int IntKind.i64 E, Value.int IntKind.i64 F] 51)) E F :=
  ⟨(Below.refl _ _).alloc (Nat.le_refl _) _, by simp [go_sem], by simp [go_sem], by simp⟩

set_option maxHeartbeats 1000000 in
theorem encode_walk (m E F B K T V : Nat) (e last : Int) (w : World) (hm : m < 2 ^ (F + 1)) (hm0 : m ≠ 0) (he1 : -1000000 ≤ e) (he2 : e ≤ 1000000) (hE1 : 2 ≤ E) (hE2 : E ≤ 11) (hF1 : 1 ≤ F) (hF2 : F ≤ 52)
    (hB : wrap64 (wrap64 (2 ^ (E - 1)) - 1) = (B : Int)) (hB1 : 1 ≤ B) (hB2 : B ≤ 1023)
    (hT : wrap64 (wrap64 (2 ^ E) - 1) = (T : Int)) (hT1 : 3 ≤ T) (hT2 : T ≤ 2047)
    (hlast : Hid (last = max (e + m.log2 - F) (1 - (B : Int) - F))) (hK : Hid ((K : Int) = e - last))
    (v1 : Hid (m.log2 + K + 1 ≤ F → e - K ≤ 1 - (B : Int) - F → V = m <<< K))
    (v2 : Hid (m.log2 + K = F → (T : Int) ≤ e - K + F + B → ((V : Nat) : Int) = IntKind.u64.wrap (IntKind.u64.wrap (IntKind.u64.wrap (2 ^ E) - 1) * 2 ^ F)))
    (v3 : Hid (m.log2 + K = F → e - K + F + B < (T : Int) → ((V : Nat) : Int) = bits BinOp.or IntKind.u64 (IntKind.u64.wrap ((e - K + F + B) * 2 ^ F)) (bits BinOp.and IntKind.u64 (m <<< K : Nat) (IntKind.u64.wrap (IntKind.u64.wrap (2 ^ F) - 1))))) :
    Calls Tryd.prog 67 #[.int .u64 m, .int .i64 e, .agg #[.int .i64 E, .int .i64 F]] w fun e' w' => e' = .returned (.int .u64 V) ∧ Below w.heap.size w w' := by
  have HM : Hid (m < 2 ^ (F + 1)) := hm
  clear hm
  have z0 : ((m : Int) == 0) = false := by simp; omega
  go_enter Tryd.func67, Tryd.ntmps67
  go_wp2_with fail
  go_loopw [0, 1] (fun v0 v1 wr => ∃ k : Nat, k ≤ K ∧ v0 = .int .u64 (m <<< k : Nat) ∧ v1 = .int .i64 (e - k) ∧ FormAt w wr E F) (fun _ v1 _ => (intOf v1 - last).toNat)
  case atStart => exact ⟨0, by omega, by simp, by simp, FormAt.new w E F⟩
  case round =>
    obtain ⟨k, hk, rfl, rfl, hfa⟩ := hrel
    have hlg : m.log2 < F + 1 := (PL.log2_lt_iff _ _ hm0).2 HM.out
    have hKe := hK.out
    have hle := hlast.out
    have hbd : m <<< k < 9007199254740992 := shl_bound m k F hm0 (by omega) hF2
    have hbl : Hid (Go.Lib.bitLen (m <<< k) = m.log2 + k + 1) := by
      unfold Hid
      rw [PL.bitLen_log2 64 _ (by omega) (by omega) (shl_ne m k hm0), PL.log2_shl m k hm0]
    generalize hS : m <<< k = S at *
    generalize hG : m.log2 = G at *
    have HS : Hid (m <<< k = S) := hS
    clear hS
    have HG : Hid (m.log2 = G) := hG
    clear hG
    have HFA : Hid (FormAt w wr E F) := hfa
    obtain ⟨hb, hc0, hc1, hsz⟩ := hfa
    obtain ⟨L, hL⟩ : ∃ L, L = G + k + 1 := ⟨_, rfl⟩
    rw [← hL] at hbl
    by_cases hlt : k < K
    · have a1 : L ≤ F := by omega
      have a1' : decide (L ≤ F) = true := by simpa using a1
      have a2 : 1 - (B : Int) - F < e - k := by omega
      have HL : Hid (L = G + k + 1) := hL
      have hfaD := fun nq => HFA.out.drewN nq
      have hkl : last < e - k := by omega
      clear hKe hle hb hL
      go_wp2_with fail
      go_quiet ((go_at_call 98; exact Calls.quiet_of_same (len64 _ _ (by omega) hbl _)))
      go_wp2_with fail
      refine ⟨⟨k + 1, by omega, ?_, by go_num, hfaD nq⟩, by simp only [intOf]; omega⟩
      rw [← PL.shl_succ, HS.out]
      go_num
    · obtain rfl : k = K := by omega
      have d1 : e - k = last := by omega
      by_cases hLF : L ≤ F
      · have a1' : decide (L ≤ F) = true := by simpa using hLF
        have a2 : ¬ 1 - (B : Int) - F < e - k := by omega
        have a2' : e - k ≤ 1 - (B : Int) - F := by omega
        have HL : Hid (L = G + k + 1) := hL
        have HD : Hid (e - k = last) := d1
        clear hKe hle hb hL d1
        go_wp2_with fail
        go_quiet ((go_at_call 98; exact Calls.quiet_of_same (len64 _ _ (by omega) hbl _)))
        go_wp2_with fail
        refine wp_loop_rounds 1 ?_
        rw [rounds_succ]
        have a3 : ¬ ((F : Int) + 1 < L) := by omega
        go_wp2_with fail
        go_quiet ((go_at_call 98; exact quiet_add_same (len64 _ _ (by omega) hbl _)))
        go_wp2_with fail
        go_quiet ((go_at_call 98; exact quiet_add_same (len64 _ _ (by omega) hbl _)))
        go_wp2_with fail
        have f1 := v1.out (by have := HL.out; omega) (by omega)
        rw [HS.out] at f1
        subst f1
        go_ret
        exact ⟨rfl, by repeat' (first | exact HFA.out.1 | refine below_drewN ?_ _)⟩
      · have a1' : decide (L ≤ F) = false := by simpa using hLF
        have hek1 : 1 - (B : Int) - F ≤ e - k := by omega
        have a3 : ¬ ((F : Int) + 1 < L) := by omega
        have HL : Hid (L = G + k + 1) := hL
        have HD : Hid (e - k = last) := d1
        clear hKe hle hb hL d1
        go_wp2_with fail
        go_quiet ((go_at_call 98; exact Calls.quiet_of_same (len64 _ _ (by omega) hbl _)))
        go_wp2_with fail
        refine wp_loop_rounds 1 ?_
        rw [rounds_succ]
        go_wp2_with fail
        go_quiet ((go_at_call 98; exact quiet_add_same (len64 _ _ (by omega) hbl _)))
        go_wp2_with fail
        go_quiet ((go_at_call 98; exact quiet_add_same (len64 _ _ (by omega) hbl _)))
        go_wp2_with fail
        · go_quiet (fail)
          go_wp2_with fail
          have f2 := v2.out (by have := HL.out; omega) (by assumption)
          go_ret
          exact ⟨by rw [f2]; rfl, by repeat' (first | exact HFA.out.1 | refine below_drewN ?_ _)⟩
        · go_quiet (fail)
          go_wp2_with fail
          have f3 := v3.out (by have := HL.out; omega) (by assumption)
          rw [HS.out] at f3
          go_ret
          exact ⟨by rw [f3]; rfl, by repeat' (first | exact HFA.out.1 | refine below_drewN ?_ _)⟩

set_option maxHeartbeats 1000000 in
theorem encode_carry (m S E F B T V : Nat) (e : Int) (w : World) (hm : m < 18446744073709551616) (hm0 : m ≠ 0) (hS : (m : Int) / 2 = (S : Int)) (hbd : S < 9007199254740992) (he1 : -1000000 ≤ e) (he2 : e ≤ 1000000) (hE1 : 2 ≤ E) (hE2 : E ≤ 11) (hF1 : 1 ≤ F) (hF2 : F ≤ 52)
    (hB : wrap64 (wrap64 (2 ^ (E - 1)) - 1) = (B : Int)) (hB1 : 1 ≤ B) (hB2 : B ≤ 1023)
    (hT : wrap64 (wrap64 (2 ^ E) - 1) = (T : Int)) (hT1 : 3 ≤ T) (hT2 : T ≤ 2047) (L1 L2 : Nat) (hL1 : Hid (Go.Lib.bitLen m = L1)) (hL2 : Hid (Go.Lib.bitLen S = L2)) (hL1F : Hid (L1 = F + 2)) (hL2F : Hid (L2 = F + 1)) (hle : 1 - (B : Int) - F ≤ e)
    (v2 : Hid ((T : Int) ≤ e + 1 + F + B → ((V : Nat) : Int) = IntKind.u64.wrap (IntKind.u64.wrap (IntKind.u64.wrap (2 ^ E) - 1) * 2 ^ F)))
    (v3 : Hid (e + 1 + F + B < (T : Int) → ((V : Nat) : Int) = bits BinOp.or IntKind.u64 (IntKind.u64.wrap ((e + 1 + F + B) * 2 ^ F)) (bits BinOp.and IntKind.u64 (S : Nat) (IntKind.u64.wrap (IntKind.u64.wrap (2 ^ F) - 1))))) :
    Calls Tryd.prog 67 #[.int .u64 m, .int .i64 e, .agg #[.int .i64 E, .int .i64 F]] w fun e' w' => e' = .returned (.int .u64 V) ∧ Below w.heap.size w w' := by
  have z0 : ((m : Int) == 0) = false := by simp; omega
  have b1 : decide (L1 ≤ F) = false := by simp [hL1F.out]
  have b2 : decide (L2 ≤ F) = false := by simp [hL2F.out]
  have b3 : (F : Int) + 1 < L1 := by rw [hL1F.out]; omega
  have b4 : ¬ (F : Int) + 1 < L2 := by rw [hL2F.out]; omega
  go_enter Tryd.func67, Tryd.ntmps67
  go_wp2_with fail
  have hFA := FormAt.new w E F
  generalize w.alloc (Obj.cells #[Value.int IntKind.i64 E, Value.int IntKind.i64 F] 51) = wr at *
  have HFA : Hid (FormAt w wr E F) := hFA
  obtain ⟨hb, hc0, hc1, hsz⟩ := hFA
  clear hb
  refine wp_loop_rounds 1 ?_
  rw [rounds_succ]
  go_wp2_with fail
  go_quiet ((go_at_call 98; exact Calls.quiet_of_same (len64 _ _ (by omega) hL1 _)))
  go_wp2_with fail
  refine wp_loop_rounds 2 ?_
  rw [rounds_succ]
  go_wp2_with fail
  go_quiet ((go_at_call 98; exact quiet_add_same (len64 _ _ (by omega) hL1 _)))
  go_wp2_with fail
  rw [rounds_succ]
  go_wp2_with fail
  go_quiet ((go_at_call 98; exact quiet_add_same (len64 _ _ (by omega) hL2 _)))
  go_wp2_with fail
  go_quiet ((go_at_call 98; exact quiet_add_same (len64 _ _ (by omega) hL2 _)))
  go_wp2_with fail
  · go_quiet (fail)
    go_wp2_with fail
    have f2 := v2.out (by assumption)
    go_ret
    exact ⟨by rw [f2]; rfl, by repeat' (first | exact HFA.out.1 | refine below_drewN ?_ _)⟩
  · go_quiet (fail)
    go_wp2_with fail
    have f3 := v3.out (by assumption)
    go_ret
    exact ⟨by rw [f3]; rfl, by repeat' (first | exact HFA.out.1 | refine below_drewN ?_ _)⟩

theorem encode_zero (e : Int) (E F : Nat) (w : World) :
    Calls Tryd.prog 67 #[.int .u64 0, .int .i64 e, .agg #[.int .i64 E, .int .i64 F]] w fun e' w' => e' = .returned (.int .u64 0) ∧ Below w.heap.size w w' := by
  go_enter Tryd.func67, Tryd.ntmps67
  go_wp2_with fail
  go_ret
  exact ⟨rfl, (FormAt.new w E F).1⟩

/-- The program's encode, whole: the format's word of a number that was rounded. -/
theorem encode_any (m E F : Nat) (e : Int) (w : World) (hm : m ≤ 2 ^ (F + 1)) (hle : 1 - (PL.biasOf E : Int) - F ≤ e) (he1 : -1000000 ≤ e) (he2 : e ≤ 1000000) (hE1 : 2 ≤ E) (hE2 : E ≤ 11) (hF1 : 1 ≤ F) (hF2 : F ≤ 52) :
    Calls Tryd.prog 67 #[.int .u64 m, .int .i64 e, .agg #[.int .i64 E, .int .i64 F]] w fun e' w' => e' = .returned (.int .u64 (PL.rungOf (PL.fmt E F) m e : Nat)) ∧ Below w.heap.size w w' := by
  have hB : wrap64 (wrap64 (2 ^ (E - 1)) - 1) = (PL.biasOf E : Int) := PL.wrap64_pow _ (by omega)
  have hT : wrap64 (wrap64 (2 ^ E) - 1) = ((2 ^ E - 1 : Nat) : Int) := PL.wrap64_pow _ (by omega)
  have p1 : 2 ^ 1 ≤ 2 ^ (E - 1) := PL.pow_bound _ _ (by omega)
  have p2 : 2 ^ (E - 1) ≤ 2 ^ 10 := PL.pow_bound _ _ (by omega)
  have p3 : 2 ^ 2 ≤ 2 ^ E := PL.pow_bound _ _ hE1
  have p4 : 2 ^ E ≤ 2 ^ 11 := PL.pow_bound _ _ hE2
  have hB1 : 1 ≤ PL.biasOf E := by unfold PL.biasOf; omega
  have hB2 : PL.biasOf E ≤ 1023 := by unfold PL.biasOf; omega
  by_cases hm0 : m = 0
  · subst hm0
    rw [PL.rung_zero]
    exact encode_zero e E F w
  by_cases hc : m = 2 ^ (F + 1)
  · have q1 : 2 ^ (F + 1) ≤ 2 ^ 53 := PL.pow_bound _ _ (by omega)
    have hS : m / 2 = 2 ^ F := by rw [hc, Nat.pow_succ]; omega
    have hlog : m.log2 = F + 1 := by rw [hc]; exact Nat.log2_two_pow
    have q2 : 2 ^ F ≤ 2 ^ 52 := PL.pow_bound _ _ hF2
    have q3 := Nat.two_pow_pos F
    have hr : PL.rungOf (PL.fmt E F) m e = PL.rungOf (PL.fmt E F) (2 ^ F) (e + 1) := by
      have d : PL.dropOf (PL.fmt E F) m e = 1 := by
        unfold PL.dropOf PL.lastOf
        rw [PL.least_eq, hlog]
        show (max (e + ((F + 1 : Nat) : Int) - F) _ - e).toNat = 1
        omega
      rw [PL.rung_round _ m e hm0 (by rw [d]; omega), d]
      have : PL.rne m 1 = 2 ^ F := by
        rw [hc]
        unfold PL.rne
        rw [show 2 ^ (F + 1) = 2 ^ F * 2 ^ 1 from Nat.pow_add 2 _ 1]
        exact PL.rneG_exact _ _ (by omega)
      rw [this]
      rfl
    have hl2 : (2 ^ F).log2 = F := Nat.log2_two_pow
    rw [hr]
    have hk : ((0 : Nat) : Int) = e + 1 - max (e + 1 + (2 ^ F).log2 - F) (1 - (PL.biasOf E : Int) - F) := by rw [hl2]; omega
    refine encode_carry m (2 ^ F) E F (PL.biasOf E) (2 ^ E - 1) _ e w (by omega) hm0 (by rw [← hS]; rfl) (by omega) he1 he2 hE1 hE2 hF1 hF2 hB hB1 hB2 hT (by omega) (by omega) (F + 2) (F + 1) ?_ ?_ rfl rfl hle ?_ ?_
    · show _ = _
      rw [PL.bitLen_log2 64 m (by omega) (by omega) hm0, hlog]
    · show _ = _
      rw [PL.bitLen_log2 64 _ (by omega) (by omega) (by omega), hl2]
    · intro h
      rw [PL.word_inf E F hE1 hE2 hF2, PL.fin_inf E F (2 ^ F) 0 (e + 1 + F + PL.biasOf E).toNat (e + 1) _ (by omega) rfl hk (by rw [hl2]; rfl) (by omega) (by omega)]
    · intro h
      obtain ⟨X, hX⟩ : ∃ X : Nat, (X : Int) = e + 1 + F + PL.biasOf E := ⟨(e + 1 + F + PL.biasOf E).toNat, by omega⟩
      rw [← hX, PL.word_fin E F (2 ^ F) X hE2 hF2 (by omega) (by omega), PL.fin_fin E F (2 ^ F) 0 X (e + 1) _ (by omega) rfl hk (by rw [hl2]; rfl) (by omega) (by omega)]
      rfl
  · have hlt : m < 2 ^ (F + 1) := by omega
    have hlg : m.log2 < F + 1 := (PL.log2_lt_iff _ _ hm0).2 hlt
    obtain ⟨last, hlast⟩ : ∃ last, last = max (e + m.log2 - F) (1 - (PL.biasOf E : Int) - F) := ⟨_, rfl⟩
    obtain ⟨K, hK⟩ : ∃ K : Nat, (K : Int) = e - last := ⟨(e - last).toNat, by omega⟩
    refine encode_walk m E F (PL.biasOf E) K (2 ^ E - 1) _ e last w hlt hm0 he1 he2 hE1 hE2 hF1 hF2 hB hB1 hB2 hT (by omega) (by omega) hlast hK ?_ ?_ ?_
    · intro h1 h2
      exact PL.fin_low E F m K e last hE1 hm0 hlast hK h1 h2
    · intro h1 h2
      rw [PL.word_inf E F hE1 hE2 hF2, PL.fin_inf E F m K (e - K + F + PL.biasOf E).toNat e last hm0 hlast hK h1 (by omega) (by omega)]
    · intro h1 h2
      obtain ⟨X, hX⟩ : ∃ X : Nat, (X : Int) = e - K + F + PL.biasOf E := ⟨(e - K + F + PL.biasOf E).toNat, by omega⟩
      have hb := shl_bound m K F hm0 (by omega) hF2
      rw [← hX, PL.word_fin E F (m <<< K) X hE2 hF2 (by omega) (by omega), PL.fin_fin E F m K X e last hm0 hlast hK h1 (by omega) (by omega)]
end Go.Proofs.YtjjfkidddjcdcaaDoor

namespace Go.Proofs.YtjjfkidddjcdcaaDoor
open Go.ChangeShapes Go.WideShapes Go.ChangeAt Go.RowKit

theorem call_bits (b : Nat) (w : World) : (callFunc 17 #[.float .f64 b]).run Tryd.prog w = .ok (.value (.int .u64 b)) w :=
  (run_callFunc_extern (e := Extern.MathFloatBits.float64bits) Tryd.func17 (by kernel_rfl) (by kernel_rfl) (by kernel_rfl) (by kernel_rfl) #[.float .f64 b] w).trans rfl

theorem call_float (n : Int) (w : World) : (callFunc 63 #[.int .u64 n]).run Tryd.prog w = .ok (.value (.float .f64 n.toNat)) w :=
  (run_callFunc_extern (e := Extern.MathFloatBits.float64frombits) Tryd.func63 (by kernel_rfl) (by kernel_rfl) (by kernel_rfl) (by kernel_rfl) #[.int .u64 n] w).trans rfl

def expo (b : Nat) : Nat := b / 4503599627370496 % 2048
def frac (b : Nat) : Nat := b % 4503599627370496
def sgn (b : Nat) : Bool := decide (9223372036854775808 ≤ b)

theorem and_2047 (x : Nat) (hx : x < 18446744073709551616) : bits .and .u64 (x : Int) 2047 = ((x % 2048 : Nat) : Int) := by
  have := u64_and_nat x 2047 hx (by omega)
  rw [nat_mask11] at this
  exact this

theorem and_frac (x : Nat) (hx : x < 18446744073709551616) : bits .and .u64 (x : Int) 4503599627370495 = ((x % 4503599627370496 : Nat) : Int) := by
  have := u64_and_nat x 4503599627370495 hx (by omega)
  rw [show x &&& 4503599627370495 = x % 4503599627370496 from Nat.and_two_pow_sub_one_eq_mod x 52] at this
  exact this

set_option maxRecDepth 100000 in
theorem split_any (b : Nat) (hb : b < 18446744073709551616) (w : World) :
    Calls Tryd.prog 13 #[.float .f64 b] w fun e w' => e = .returned (.tuple #[.bool (sgn b), .int .i64 (expo b), .int .u64 (frac b)]) ∧ w' = w := by
  have cb := call_bits
  have a1 : bits .and .u64 ((b : Int) / 4503599627370496) 2047 = ((expo b : Nat) : Int) := and_2047 (b / 4503599627370496) (by omega)
  have a2 : bits .and .u64 (b : Int) 4503599627370495 = ((frac b : Nat) : Int) := and_frac b hb
  have a3 : ((b : Int) / 9223372036854775808 == 1) = sgn b := by
    unfold sgn
    rw [Bool.eq_iff_iff]
    simp
    omega
  have x1 : expo b ≤ 2047 := by unfold expo; omega
  clear hb
  go_enter Tryd.func13, Tryd.ntmps13
  go_wp2_with fail
  go_ret3
  exact ⟨rfl, rfl⟩

theorem rne_zero_left (d : Nat) : PL.rne 0 d = 0 := by
  have := Nat.two_pow_pos d
  unfold PL.rne PL.rneG
  rw [Nat.zero_div, Nat.zero_mod, if_neg (by omega)]

/-- What the program's rounding hands to its encode stands for the same word. -/
theorem round_rung (E F U L d : Nat) (c : Int) (hU : U < 18446744073709551616) (hL : Go.Lib.bitLen U = L)
    (hd : (d : Int) = max (max ((L : Int) - (F + 1 : Nat)) (1 - (PL.biasOf E : Int) - F - c)) 0) :
    PL.rungOf (PL.fmt E F) (PL.rne U d) (roundE c (1 - (PL.biasOf E : Int) - F) d) = PL.rungOf (PL.fmt E F) U c ∧
      PL.rne U d ≤ 2 ^ (F + 1) ∧ 1 - (PL.biasOf E : Int) - F ≤ roundE c (1 - (PL.biasOf E : Int) - F) d ∧ roundE c (1 - (PL.biasOf E : Int) - F) d ≤ max c (1 - (PL.biasOf E : Int) - F) + 64 := by
  have hE : 1 - (PL.biasOf E : Int) - F ≤ roundE c (1 - (PL.biasOf E : Int) - F) d ∧ roundE c (1 - (PL.biasOf E : Int) - F) d ≤ max c (1 - (PL.biasOf E : Int) - F) + 64 := by
    unfold roundE
    split <;> omega
  by_cases h0 : U = 0
  · subst h0
    rw [rne_zero_left, PL.rung_zero, PL.rung_zero]
    exact ⟨rfl, Nat.zero_le _, hE.1, hE.2⟩
  have hlog : L = U.log2 + 1 := by rw [← hL]; exact PL.bitLen_log2 64 U (by omega) (by simpa using hU) h0
  have hdrop : PL.dropOf (PL.fmt E F) U c = d := by
    unfold PL.dropOf PL.lastOf
    rw [PL.least_eq]
    show (max (c + U.log2 - (F : Int)) _ - c).toNat = d
    omega
  have hub : PL.rne U d ≤ 2 ^ (F + 1) := by
    refine PL.rneG_le _ _ _ (Nat.lt_of_lt_of_le (Nat.lt_log2_self (n := U)) ?_)
    rw [← Nat.pow_add]
    exact PL.pow_bound _ _ (by omega)
  refine ⟨?_, hub, hE.1, hE.2⟩
  by_cases hd0 : d = 0
  · subst hd0
    rw [show PL.rne U 0 = U from PL.rne_zero U]
    unfold roundE
    simp
  have hr := PL.rung_round (PL.fmt E F) U c h0 (by omega)
  rw [hdrop] at hr
  by_cases h64 : 64 < d
  · have hz : PL.rne U d = 0 := by
      refine PL.rneG_small _ _ ?_
      have : 2 ^ 65 ≤ 2 ^ d := PL.pow_bound _ _ (by omega)
      generalize 2 ^ d = p at *
      omega
    rw [hr, hz, PL.rung_zero, PL.rung_zero]
  · unfold roundE
    rw [if_neg h64, hr]

/-- The word of m times 2 to the power of e, cut to what the program takes. -/
def makeW (neg : Bool) (U : Nat) (e : Int) : Nat := (if neg then 9223372036854775808 else 0) + PL.rungOf (PL.fmt 11 52) U (min (max e (-5000)) 5000)

theorem or_sign (x : Nat) (hx : x < 9223372036854775808) : bits .or .u64 (x : Int) 9223372036854775808 = ((9223372036854775808 + x : Nat) : Int) := by
  have := u64_or_nat x 9223372036854775808 (by omega) (by omega)
  rw [Nat.or_comm, nat_join 63 9223372036854775808 x (by decide) (by omega)] at this
  exact this

theorem rung_lt (U : Nat) (c : Int) : PL.rungOf (PL.fmt 11 52) U c < 9223372036854775808 := by
  by_cases h : U = 0
  · subst h; rw [PL.rung_zero]; omega
  · rw [PL.rung_eq _ _ _ h]
    have : (PL.fmt 11 52).infRung < 9223372036854775808 := by decide
    omega

theorem bias11 : PL.biasOf 11 = 1023 := rfl

theorem encode_double (M : Nat) (X : Int) (w : World) (hm : M ≤ 2 ^ (52 + 1)) (hle : -1074 ≤ X) (he2 : X ≤ 1000000) :
    Calls Tryd.prog 67 #[.int .u64 M, .int .i64 X, .agg #[.int .i64 11, .int .i64 52]] w fun e' w' => e' = .returned (.int .u64 (PL.rungOf (PL.fmt 11 52) M X : Nat)) ∧ Below w.heap.size w w' :=
  encode_any M 11 52 X w hm (by rw [bias11]; omega) (by omega) he2 (by omega) (by omega) (by omega) (by omega)

set_option maxRecDepth 100000 in
theorem make_pos (U : Nat) (e : Int) (hU : U < 9223372036854775808) (w : World) (g0 : w.cell? ⟨1, 0, none⟩ = some (.int .i64 11)) (g1 : w.cell? ⟨1, 1, none⟩ = some (.int .i64 52)) (hsz : 1 < w.heap.size) :
    Calls Tryd.prog 23 #[.int .i64 U, .int .i64 e] w fun e' w' => e' = .returned (.float .f64 (makeW false U e)) ∧ Below w.heap.size w w' := by
  have cf := call_float
  obtain ⟨c, hc⟩ : ∃ c, min (max e (-5000)) 5000 = c := ⟨_, rfl⟩
  have c1 : -5000 ≤ c := by omega
  have c2 : c ≤ 5000 := by omega
  have dn : decide ((U : Int) < 0) = false := by simp
  have HC : Hid (makeW false U e = PL.rungOf (PL.fmt 11 52) U c) := by unfold Hid makeW; rw [hc]; simp
  obtain ⟨d, hd⟩ : ∃ d : Nat, (d : Int) = max (max ((Go.Lib.bitLen U : Int) - (52 + 1 : Nat)) (1 - (PL.biasOf 11 : Int) - (52 : Nat) - c)) 0 := ⟨_, Int.toNat_of_nonneg (by omega)⟩
  have hL := Go.Lib.bitLen_le U 64 (Nat.le_refl _) (by omega)
  obtain ⟨r1, r2, r3, r4⟩ := round_rung 11 52 U _ d c (by omega) rfl hd
  have HD : Hid ((d : Int) = max (max ((Go.Lib.bitLen U : Int) - 53) (-1074 - c)) 0) := hd
  have least : (1 - (PL.biasOf 11 : Int) - (52 : Nat)) = -1074 := by rw [bias11]; rfl
  rw [least] at r1 r3 r4
  have HR : Hid (PL.rungOf (PL.fmt 11 52) (PL.rne U d) (roundE c (-1074) d) = PL.rungOf (PL.fmt 11 52) U c) := r1
  clear hd r1 least
  generalize hm : PL.rne U d = M at *
  generalize hx : roundE c (-1074) d = X at *
  have HM : Hid (PL.rne U d = M) := hm
  have HX : Hid (roundE c (-1074) d = X) := hx
  clear hm hx
  have hlt := rung_lt U c
  rw [HC.out]
  clear HC
  generalize PL.rungOf (PL.fmt 11 52) U c = R at *
  go_enter Tryd.func23, Tryd.ntmps23
  go_wp2_with fail
  refine (round_any U _ d c 53 (-1074) w (by omega) rfl hL (by omega) (by omega) (by omega) (by omega) (by omega) (by omega) HD).mono ?_
  rintro e1 w1 ⟨rfl, rfl⟩
  rw [HM.out, HX.out]
  go_wp2_with fail
  refine (encode_double M X w1 r2 r3 (by omega)).mono ?_
  rintro e2 w2 ⟨rfl, hb⟩
  rw [HR.out]
  go_wp2_with fail
  go_ret
  exact ⟨rfl, hb⟩

theorem wrap_neg (U : Nat) (h : U ≤ 9223372036854775808) : IntKind.u64.wrap (-IntKind.u64.wrap (-(U : Int))) = (U : Int) := by
  rw [IntKind.wrap_u64, IntKind.wrap_u64]
  omega

set_option maxRecDepth 100000 in
theorem make_neg (U : Nat) (e : Int) (hU : U ≤ 9223372036854775808) (hU0 : 0 < U) (w : World) (g0 : w.cell? ⟨1, 0, none⟩ = some (.int .i64 11)) (g1 : w.cell? ⟨1, 1, none⟩ = some (.int .i64 52)) (hsz : 1 < w.heap.size) :
    Calls Tryd.prog 23 #[.int .i64 (-(U : Int)), .int .i64 e] w fun e' w' => e' = .returned (.float .f64 (makeW true U e)) ∧ Below w.heap.size w w' := by
  have cf := call_float
  have hw := wrap_neg U hU
  obtain ⟨c, hc⟩ : ∃ c, min (max e (-5000)) 5000 = c := ⟨_, rfl⟩
  have c1 : -5000 ≤ c := by omega
  have c2 : c ≤ 5000 := by omega
  have HC : Hid (makeW true U e = 9223372036854775808 + PL.rungOf (PL.fmt 11 52) U c) := by unfold Hid makeW; rw [hc]; simp
  obtain ⟨d, hd⟩ : ∃ d : Nat, (d : Int) = max (max ((Go.Lib.bitLen U : Int) - (52 + 1 : Nat)) (1 - (PL.biasOf 11 : Int) - (52 : Nat) - c)) 0 := ⟨_, Int.toNat_of_nonneg (by omega)⟩
  have hL := Go.Lib.bitLen_le U 64 (Nat.le_refl _) (by omega)
  obtain ⟨r1, r2, r3, r4⟩ := round_rung 11 52 U _ d c (by omega) rfl hd
  have HD : Hid ((d : Int) = max (max ((Go.Lib.bitLen U : Int) - 53) (-1074 - c)) 0) := hd
  have least : (1 - (PL.biasOf 11 : Int) - (52 : Nat)) = -1074 := by rw [bias11]; rfl
  rw [least] at r1 r3 r4
  have HR : Hid (PL.rungOf (PL.fmt 11 52) (PL.rne U d) (roundE c (-1074) d) = PL.rungOf (PL.fmt 11 52) U c) := r1
  clear hd r1 least
  generalize hm : PL.rne U d = M at *
  generalize hx : roundE c (-1074) d = X at *
  have HM : Hid (PL.rne U d = M) := hm
  have HX : Hid (roundE c (-1074) d = X) := hx
  clear hm hx
  have hlt := rung_lt U c
  rw [HC.out]
  clear HC
  generalize PL.rungOf (PL.fmt 11 52) U c = R at *
  go_enter Tryd.func23, Tryd.ntmps23
  go_wp2_with fail
  refine (round_any U _ d c 53 (-1074) w (by omega) rfl hL (by omega) (by omega) (by omega) (by omega) (by omega) (by omega) HD).mono ?_
  rintro e1 w1 ⟨rfl, rfl⟩
  rw [HM.out, HX.out]
  go_wp2_with fail
  refine (encode_double M X w1 r2 r3 (by omega)).mono ?_
  rintro e2 w2 ⟨rfl, hb⟩
  rw [HR.out]
  have ho := or_sign R hlt
  have hn : (9223372036854775808 + (R : Int)).toNat = 9223372036854775808 + R := by omega
  go_wp2_with fail
  go_ret
  exact ⟨by rw [← hn]; rfl, hb⟩

/-- The program's Make, whole. -/
theorem make_any (m e : Int) (hm1 : -9223372036854775808 ≤ m) (hm2 : m ≤ 9223372036854775807) (w : World) (g0 : w.cell? ⟨1, 0, none⟩ = some (.int .i64 11)) (g1 : w.cell? ⟨1, 1, none⟩ = some (.int .i64 52)) (hsz : 1 < w.heap.size) :
    Calls Tryd.prog 23 #[.int .i64 m, .int .i64 e] w fun e' w' => e' = .returned (.float .f64 (makeW (decide (m < 0)) m.natAbs e)) ∧ Below w.heap.size w w' := by
  by_cases h : m < 0
  · obtain ⟨U, rfl⟩ : ∃ U : Nat, m = -(U : Int) := ⟨m.natAbs, by omega⟩
    have e1 : decide (-(U : Int) < 0) = true := by simpa using h
    have e2 : (-(U : Int)).natAbs = U := by omega
    rw [e1, e2]
    exact make_neg U e (by omega) (by omega) w g0 g1 hsz
  · obtain ⟨U, rfl⟩ : ∃ U : Nat, m = (U : Int) := ⟨m.natAbs, by omega⟩
    have e1 : decide ((U : Int) < 0) = false := by simp
    have e2 : (U : Int).natAbs = U := by omega
    rw [e1, e2]
    exact make_pos U e (by omega) w g0 g1 hsz
end Go.Proofs.YtjjfkidddjcdcaaDoor

namespace Go.Proofs.YtjjfkidddjcdcaaDoor
open Go.ChangeShapes Go.WideShapes Go.ChangeAt Go.RowKit
open Go.Proofs (TabAt)

def wordOf (neg : Bool) (x f : Nat) : Nat := (if neg then 9223372036854775808 else 0) + x * 4503599627370496 + f

theorem join_bad (neg : Bool) (exp : Int) (fr : Nat) (w : World) (h : exp < 0 ∨ 2047 < exp ∨ 4503599627370495 < fr) :
    Calls Tryd.prog 18 #[.bool neg, .int .i64 exp, .int .u64 fr] w fun e w' => e = .returned (.tuple #[.float .f64 0, .int .i64 3]) ∧ w' = w := by
  by_cases h1 : exp < 0
  · go_enter Tryd.func18, Tryd.ntmps18
    go_wp2_with fail
    go_ret2
    exact ⟨rfl, rfl⟩
  by_cases h2 : 2047 < exp
  · go_enter Tryd.func18, Tryd.ntmps18
    go_wp2_with fail
    go_ret2
    exact ⟨rfl, rfl⟩
  have h3 : 4503599627370495 < fr := by omega
  clear h
  go_enter Tryd.func18, Tryd.ntmps18
  go_wp2_with fail
  go_ret2
  exact ⟨rfl, rfl⟩

theorem or_join (x f : Nat) (hx : x ≤ 2047) (hf : f ≤ 4503599627370495) : bits .or .u64 ((x : Int) * 4503599627370496) (f : Int) = ((x * 4503599627370496 + f : Nat) : Int) := by
  have := u64_or_nat (x * 4503599627370496) f (by omega) (by omega)
  rw [nat_join 52 _ f (Nat.mul_mod_left _ _) (by omega)] at this
  exact this

theorem join_ok (neg : Bool) (x f : Nat) (w : World) (hx : x ≤ 2047) (hf : f ≤ 4503599627370495) :
    Calls Tryd.prog 18 #[.bool neg, .int .i64 x, .int .u64 f] w fun e w' => e = .returned (.tuple #[.float .f64 (wordOf neg x f), .int .i64 0]) ∧ w' = w := by
  have cf := call_float
  have ho := or_join x f hx hf
  obtain ⟨V, hV⟩ : ∃ V, x * 4503599627370496 + f = V := ⟨_, rfl⟩
  rw [hV] at ho
  have hw : Hid (wordOf neg x f = (if neg then 9223372036854775808 else 0) + V) := by unfold Hid wordOf; rw [← hV]; omega
  rw [hw.out]
  have hVb : V < 9223372036854775808 := by omega
  have hs := or_sign V hVb
  have hn : (9223372036854775808 + (V : Int)).toNat = 9223372036854775808 + V := by omega
  have hn0 : (0 : Nat) + V = V := by omega
  clear hV hw
  cases neg
  · go_enter Tryd.func18, Tryd.ntmps18
    go_wp2_with fail
    all_goals first | (exfalso; omega) | skip
    go_ret2
    exact ⟨by simp, rfl⟩
  · go_enter Tryd.func18, Tryd.ntmps18
    go_wp2_with fail
    all_goals first | (exfalso; omega) | skip
    go_ret2
    exact ⟨by simp, rfl⟩
end Go.Proofs.YtjjfkidddjcdcaaDoor
