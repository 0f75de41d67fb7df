/- Proved here: contracts of package enclosurebig's left and right at this program. Conditions: as each theorem says.
   Proved here: the contract of package enclosurebig's right at this program. Conditions: as each theorem says. -/
import Derived.Test.YtjjfkidddjcdcaaDoorCmp
import Derived.Laws.MakeOwn
namespace Go.Proofs.YtjjfkidddjcdcaaDoor
open Go.ChangeShapes Go.WideShapes Go.ChangeAt Go.RowKit

set_option maxRecDepth 100000 in
theorem make_words (w : World) (n : Nat) (hn : n ≤ 1000000) : (Instr.makeSlice 99 (.int .i64 (n : Int)) (.int .i64 (n : Int))).run Tryd.prog w = .ok (.slice (some ⟨w.heap.size, 0, none⟩) n n) (w.alloc (.cells (madeCells #[.int .u32 0] n) 138)) := by
  obtain ⟨i, hi, hz, hs, hb⟩ : ∃ i, Tryd.prog.info? 138 = some i ∧ i.zero = some (.int .u32 0) ∧ i.size = 1 ∧ i.bytes = 4 := ⟨_, rfl, rfl, rfl, rfl⟩
  have h := run_make (P := Tryd.prog) w 99 138 i (.int .u32 0) Tryd.underlying99 hi hz .i64 .i64 n n (by omega) (by omega) (by rw [hb]; omega) (by omega)
  rw [hs] at h
  simpa [Value.cells] using h

theorem Row32.ofIs {w : World} {b n : Nat} {f : Nat → Nat} (h : w.rowIs b 138 n (fun i => .int .u32 (f i : Nat))) : Row32 w (some ⟨b, 0, none⟩) n f := fun _ =>
  ⟨b, 0, rfl, h.lt, fun j hj => by rw [Nat.zero_add]; exact h.cell hj⟩
theorem made_zero (w : World) (n : Nat) : (w.alloc (.cells (madeCells #[.int .u32 0] n) 138)).rowIs w.heap.size 138 n (fun i => .int .u32 (dig 0 i : Nat)) :=
  (World.rowIs_made w _ n 138).congr (fun i _ => by unfold dig; simp)

/-- x = d * 2^s + q, as words are laid together. -/
theorem lay_words (d s q : Nat) (hs : s < 32) (hd : d < 4294967296) (hq : q < 2 ^ s) :
    (d * 2 ^ s + q) % 4294967296 = q ||| (d * 2 ^ s % 4294967296) ∧ (d * 2 ^ s + q) / 4294967296 = d * 2 ^ s / 4294967296 ∧ d * 2 ^ s < 18446744073709551616 := by
  have hPQ : 2 ^ s * 2 ^ (32 - s) = 4294967296 := by rw [← Nat.pow_add, show s + (32 - s) = 32 by omega]
  have hda := Nat.div_add_mod d (2 ^ (32 - s))
  have hb := Nat.mod_lt d (Nat.two_pow_pos (32 - s))
  generalize d / 2 ^ (32 - s) = a at *
  generalize d % 2 ^ (32 - s) = b at *
  have hP : 2 ^ s ≤ 2147483648 := PL.pow_bound s 31 (by omega)
  have e : d * 2 ^ s = 4294967296 * a + b * 2 ^ s := by
    rw [← hda, ← hPQ]
    generalize 2 ^ s = P
    generalize 2 ^ (32 - s) = Q
    grind
  have h1 : b * 2 ^ s + 2 ^ s ≤ 4294967296 := by
    rw [← hPQ, ← Nat.succ_mul, Nat.mul_comm (2 ^ s)]
    exact Nat.mul_le_mul_right _ hb
  have h2 : d * 2 ^ s < 18446744073709551616 := by
    have : d * 2 ^ s ≤ 4294967295 * 2 ^ s := Nat.mul_le_mul_right _ (by omega)
    omega
  have h3 : d * 2 ^ s % 4294967296 = b * 2 ^ s := by rw [e]; omega
  refine ⟨?_, ?_, h2⟩
  · rw [h3, Nat.or_comm, nat_join s _ q (Nat.mul_mod_left _ _) hq, e]
    omega
  · rw [e]
    omega

/-- The words of v times 2^n, when i words of v are done. -/
def lsum (v n i : Nat) : Nat := v % B i * 2 ^ n

theorem lsum_succ (v n i : Nat) : lsum v n (i + 1) = lsum v n i + dig v i * 2 ^ (n % 32) * B (i + n / 32) := by
  unfold lsum
  rw [mod_B, Nat.add_mul]
  have e : 2 ^ n = 2 ^ (n % 32) * B (n / 32) := by
    unfold B
    rw [← Nat.pow_add, show n % 32 + 32 * (n / 32) = n by omega]
  rw [B_add, e]
  grind

theorem wrap_u64_nat (x : Nat) (h : x < 18446744073709551616) : IntKind.u64.wrap (x : Int) = x := by
  rw [IntKind.wrap_u64]
  omega

theorem B_two (k : Nat) : B (k + 2) = 18446744073709551616 * B k := by
  rw [show k + 2 = (k + 1) + 1 from rfl, B_succ, B_succ]
  omega

theorem left_step (L d s k : Nat) (hs : s < 32) (hd : d < 4294967296) (hL : L < B k * 2 ^ s) :
    (∀ j, j ≠ k → j ≠ k + 1 → dig (L + d * 2 ^ s * B k) j = dig L j) ∧
    bits .or .u32 (dig L k : Nat) (IntKind.u64.wrap ((d : Int) * 2 ^ s) % 4294967296) = (dig (L + d * 2 ^ s * B k) k : Nat) ∧
    bits .or .u32 (dig L (k + 1) : Nat) (IntKind.u64.wrap ((d : Int) * 2 ^ s) / 4294967296 % 4294967296) = (dig (L + d * 2 ^ s * B k) (k + 1) : Nat) := by
  have hP : 2 ^ s ≤ 2147483648 := PL.pow_bound s 31 (by omega)
  have hq : L / B k < 2 ^ s := by
    rw [Nat.div_lt_iff_lt_mul (B_pos k), Nat.mul_comm]
    exact hL
  obtain ⟨l1, l2, l3⟩ := lay_words d s (L / B k) hs hd hq
  have hw : IntKind.u64.wrap ((d : Int) * 2 ^ s) = ((d * 2 ^ s : Nat) : Int) := by
    have e : (d : Int) * 2 ^ s = ((d * 2 ^ s : Nat) : Int) := by rw [pow_cast]; push_cast; rfl
    rw [e, wrap_u64_nat _ l3]
  have hdk : dig L k = L / B k := by
    unfold dig
    exact Nat.mod_eq_of_lt (by omega)
  have hdiv : (L + d * 2 ^ s * B k) / B k = d * 2 ^ s + L / B k := by
    rw [Nat.add_mul_div_right _ _ (B_pos k), Nat.add_comm]
  have hLk : L < B (k + 1) := by
    rw [B_succ]
    exact Nat.lt_of_lt_of_le hL (Nat.mul_le_mul_left _ (by omega))
  have hdk1 : dig L (k + 1) = 0 := by
    unfold dig
    rw [Nat.div_eq_of_lt hLk]
  refine ⟨fun j h1 h2 => ?_, ?_, ?_⟩
  · rcases Nat.lt_or_ge j k with h | h
    · exact dig_add_high _ _ _ _ h
    · have hb := B_le (show k + 2 ≤ j by omega)
      have hb1 := B_le (show k + 1 ≤ j by omega)
      have h3 : (L + d * 2 ^ s * B k) / B k < 18446744073709551616 := by
        rw [hdiv]
        clear hw hdiv
        generalize d * 2 ^ s = x at *
        generalize L / B k = y at *
        omega
      have h4 := (Nat.div_lt_iff_lt_mul (B_pos k)).1 h3
      have e2 := B_two k
      clear h3 hdiv hw l1 l2 l3 hdk hdk1 hL
      unfold dig
      rw [Nat.div_eq_of_lt (Nat.lt_of_lt_of_le h4 (by omega)), Nat.div_eq_of_lt (Nat.lt_of_lt_of_le hLk hb1)]
  · rw [hw, hdk]
    have h := u32_or_nat (L / B k) (d * 2 ^ s % 4294967296) (by omega) (by omega)
    rw [← l1] at h
    have e : ((d * 2 ^ s : Nat) : Int) % 4294967296 = ((d * 2 ^ s % 4294967296 : Nat) : Int) := by omega
    rw [e, h]
    unfold dig
    rw [hdiv]
  · rw [hw, hdk1]
    have e : ((d * 2 ^ s : Nat) : Int) / 4294967296 % 4294967296 = ((d * 2 ^ s / 4294967296 : Nat) : Int) := by omega
    have h := u32_or_nat 0 (d * 2 ^ s / 4294967296) (by omega) (by omega)
    rw [e, h, Nat.zero_or, ← l2]
    unfold dig
    rw [B_succ, ← Nat.div_div_eq_div_mul, hdiv]
    rw [Nat.mod_eq_of_lt]
    omega

theorem lsum_lt (v n i q s : Nat) (h : n = 32 * q + s) : lsum v n i < B (i + q) * 2 ^ s := by
  unfold lsum
  have h1 := Nat.mod_lt v (B_pos i)
  rw [h, Nat.pow_add, B_add, Nat.mul_assoc]
  exact Nat.mul_lt_mul_of_pos_right h1 (Nat.mul_pos (B_pos q) (Nat.two_pow_pos s))

def LeftRel (v n m q g b : Nat) (w : World) (gk : Nat) (v8 : Value) (wr : World) : Prop :=
  ∃ i : Nat, gk + i = m ∧ v8 = .int .i64 i ∧ wr.rowIs g 138 (m + q + 1) (fun j => .int .u32 (dig (lsum v n i) j : Nat)) ∧ Below b w wr

set_option maxRecDepth 100000 in
set_option maxHeartbeats 1000000 in
theorem left_any (A : Option Addr) (c v n : Nat) (w : World) (hR : Row32 w A (wc v) (dig v)) (hv : wc v ≤ 100000) (hn : n ≤ 1000000) :
    Calls Tryd.prog 110 #[.slice A (wc v) c, .int .u64 n] w fun e w' => Below w.heap.size w w' ∧ ∃ s, e = .returned s ∧ Num w' s (v * 2 ^ n) := by
  rcases Nat.eq_zero_or_pos v with h0 | h0
  · subst h0
    rw [wc_zero]
    clear hR hv
    rw [Nat.zero_mul]
    go_enter Tryd.func110, Tryd.ntmps110
    go_wp2_with fail
    go_ret
    exact ⟨Below.refl _ _, _, rfl, Num.nil w⟩
  · have hm := wc_pos h0
    obtain ⟨q, hq⟩ : ∃ q, n / 32 = q := ⟨_, rfl⟩
    obtain ⟨s, hs⟩ : ∃ s, n % 32 = s := ⟨_, rfl⟩
    have hqi : (n : Int) / 32 = q := by omega
    have hsi : (n : Int) % 32 = s := by omega
    have hs32 : s < 32 := by omega
    have hq2 : q ≤ 40000 := by omega
    have HV := Lib.hid (fun i => by have := lsum_succ v n i; rwa [hq, hs] at this : ∀ i, lsum v n (i + 1) = lsum v n i + dig v i * 2 ^ s * B (i + q))
    have HL := Lib.hid (lt_wc v)
    obtain ⟨b, off, rfl, hb, hcell⟩ := hR hm
    have HC := Lib.hid hcell
    clear hcell hR hq hs
    generalize hgm : wc v = m at *
    have hmk : ∀ w : World, (Instr.makeSlice 99 (.int .i64 ((m : Int) + q + 1)) (.int .i64 ((m : Int) + q + 1))).run Tryd.prog w = .ok (.slice (some ⟨w.heap.size, 0, none⟩) (m + q + 1) (m + q + 1)) (w.alloc (.cells (madeCells #[.int .u32 0] (m + q + 1)) 138)) := fun w => make_words w (m + q + 1) (by omega)
    go_enter Tryd.func110, Tryd.ntmps110
    go_wp2_with fail
    have hR0 : (w.alloc (.cells (madeCells #[.int .u32 0] (m + q + 1)) 138)).rowIs w.heap.size 138 (m + q + 1) (fun i => .int .u32 (dig (lsum v n 0) i : Nat)) := by
      have : lsum v n 0 = 0 := by unfold lsum; rw [B_zero, Nat.mod_one, Nat.zero_mul]
      rw [this]
      exact made_zero w _
    have hS0 : LeftRel v n m q w.heap.size w.heap.size w m (.int .i64 0) (w.alloc (.cells (madeCells #[.int .u32 0] (m + q + 1)) 138)) :=
      ⟨0, rfl, rfl, hR0, (Below.refl _ _).alloc (Nat.le_refl _) _⟩
    have HS := Lib.hid hS0
    have hg : w.heap.size ≤ w.heap.size := Nat.le_refl _
    clear hS0 hR0 hmk
    generalize w.alloc (.cells (madeCells #[.int .u32 0] (m + q + 1)) 138) = W1 at *
    obtain ⟨g, hge⟩ : ∃ g, w.heap.size = g := ⟨_, rfl⟩
    rw [hge] at HS ⊢
    have hbg : b < g := by omega
    have hgw : w.heap.size ≤ g := by omega
    clear hge hg
    go_loopg [8] m (fun gk v8 wr => LeftRel v n m q g g w gk v8 wr)
    case atStart => exact HS.out
    case round =>
      clear HS
      obtain ⟨i, hi, rfl, hRow, hBe⟩ := hrel
      have HR := Lib.hid hRow
      have HBe := Lib.hid hBe
      by_cases hlt : i < m
      · have c0 : wr.cell? ⟨b, off + i, none⟩ = some (.int .u32 (dig v i : Nat)) := (hBe.cell (p := ⟨b, off + i, none⟩) hbg).trans (HC.out i hlt)
        have c1 := hRow.cell (i := i + q) (by omega)
        have c2 := hRow.cell (i := i + q + 1) (by omega)
        have f1 := hRow.frozen (i + q)
        have f2 := hRow.frozen (i + q + 1)
        have hd := dig_lt v i
        have HV1 := Lib.hid (HV.out i)
        have HST := Lib.hid (left_step (lsum v n i) (dig v i) s (i + q) hs32 hd (lsum_lt v n i q s (by omega)))
        clear hRow hBe
        generalize lsum v n i = L at *
        generalize dig v i = d at *
        generalize dig L (i + q) = X at *
        generalize dig L (i + q + 1) = Y at *
        go_wp2_with fail
        go_roundg (gk - 1)
        case measure => omega
        case rel =>
          refine ⟨i + 1, by omega, by go_num, ((HR.out.set (i + q) _).set (i + q + 1) _).congr (fun j hj => ?_), (HBe.out.setCell (Nat.le_refl _) _).setCell (Nat.le_refl _) _⟩
          obtain ⟨t1, t2, t3⟩ := HST.out
          rw [HV1.out]
          by_cases e1 : j = i + q + 1
          · rw [if_pos e1, e1, t3]
          · rw [if_neg e1]
            by_cases e2 : j = i + q
            · rw [if_pos e2, e2, t2]
            · rw [if_neg e2, t1 j e2 e1]
      · obtain rfl : i = m := by omega
        have e : lsum v n i = v * 2 ^ n := by unfold lsum; rw [Nat.mod_eq_of_lt HL.out]
        have hlt2 : v * 2 ^ n < B (i + q + 1) := by
          rw [← e]
          have h1 := lsum_lt v n i q s (by omega)
          have h2 : 2 ^ s ≤ 2147483648 := PL.pow_bound s 31 (by omega)
          rw [B_succ]
          exact Nat.lt_of_lt_of_le h1 (Nat.mul_le_mul_left _ (by omega))
        rw [e] at HR
        have hR32 := Row32.ofIs HR.out
        have C := Lib.hid (trim_any (some ⟨g, 0, none⟩) (i + q + 1) (i + q + 1) (v * 2 ^ n) wr hR32 hlt2 (Nat.le_refl _) (by omega))
        clear hRow hBe hR32 HR hlt2 e HC HV HL
        go_wp2_with fail
        refine C.out.mono ?_
        rintro e w2 ⟨rfl, s2, rfl, hs2⟩
        go_wp2_with fail
        go_ret
        exact ⟨HBe.out.mono (by omega), s2, rfl, hs2⟩
end Go.Proofs.YtjjfkidddjcdcaaDoor

namespace Go.Proofs.YtjjfkidddjcdcaaDoor
open Go.ChangeShapes Go.WideShapes Go.ChangeAt Go.RowKit

theorem two_words (v k : Nat) : v / B k % 18446744073709551616 = dig v k + dig v (k + 1) * 4294967296 := by
  unfold dig
  rw [B_succ, ← Nat.div_div_eq_div_mul]
  generalize v / B k = V
  omega
theorem shift_mod (V s : Nat) (hs : s < 32) : V % 18446744073709551616 / 2 ^ s % 4294967296 = V / 2 ^ s % 4294967296 := by
  have e : 18446744073709551616 = 2 ^ s * (2 ^ (32 - s) * 4294967296) := by
    rw [← Nat.mul_assoc, ← Nat.pow_add, show s + (32 - s) = 32 by omega]
  rw [e, Nat.mod_mul_right_div_self, Nat.mod_mul_left_mod]
theorem right_dig (v n i q s : Nat) (h : n = 32 * q + s) (hs : s < 32) : dig (v / 2 ^ n) i = (dig v (i + q) + dig v (i + q + 1) * 4294967296) / 2 ^ s % 4294967296 := by
  rw [← two_words, shift_mod _ _ hs]
  have e : 2 ^ n = B q * 2 ^ s := by rw [h, Nat.pow_add]; rfl
  rw [Nat.div_div_eq_div_mul, B_add]
  show v / 2 ^ n / B i % 4294967296 = _
  rw [e, Nat.div_div_eq_div_mul, show B q * 2 ^ s * B i = B i * B q * 2 ^ s by grind]
theorem dig_end {v m : Nat} (h : v < B m) : dig v m = 0 := by
  unfold dig
  rw [Nat.div_eq_of_lt h]
theorem right_zero {v n m q s : Nat} (h : n = 32 * q + s) (hv : v < B m) (hm : m ≤ q) : v / 2 ^ n = 0 := by
  have e : 2 ^ n = B q * 2 ^ s := by rw [h, Nat.pow_add]; rfl
  rw [e]
  apply Nat.div_eq_of_lt
  have h1 := B_le hm
  have h2 : B q ≤ B q * 2 ^ s := Nat.le_mul_of_pos_right _ (Nat.two_pow_pos s)
  omega
theorem right_lt {v n m q s : Nat} (h : n = 32 * q + s) (hv : v < B m) (hm : q ≤ m) : v / 2 ^ n < B (m - q) := by
  have e : 2 ^ n = B q * 2 ^ s := by rw [h, Nat.pow_add]; rfl
  rw [e, ← Nat.div_div_eq_div_mul]
  have h1 : v / B q < B (m - q) := by
    rw [Nat.div_lt_iff_lt_mul (B_pos q), ← B_add, show m - q + q = m by omega]
    exact hv
  exact Nat.lt_of_le_of_lt (Nat.div_le_self _ _) h1

theorem shr_cast (z s : Nat) : (z : Int) / 2 ^ s % 4294967296 = ((z / 2 ^ s % 4294967296 : Nat) : Int) := by
  rw [pow_cast, ← Int.natCast_ediv]
  generalize z / 2 ^ s = t
  omega
theorem int_cast_eq {k : IntKind} {a b : Int} (h : a = b) : Value.int k a = .int k b := by rw [h]

def RightRel (V L g b : Nat) (w : World) (gk : Nat) (v8 : Value) (wr : World) : Prop :=
  ∃ i : Nat, gk + i = L ∧ v8 = .int .i64 i ∧ wr.rowIs g 138 L (fun j => .int .u32 ((if j < i then dig V j else 0 : Nat) : Nat)) ∧ Below b w wr

set_option maxRecDepth 100000 in
set_option maxHeartbeats 1000000 in
theorem right_any (A : Option Addr) (c v n : Nat) (w : World) (hR : Row32 w A (wc v) (dig v)) (hv : wc v ≤ 100000) (hn : n ≤ 1000000) :
    Calls Tryd.prog 134 #[.slice A (wc v) c, .int .u64 n] w fun e w' => Below w.heap.size w w' ∧ ∃ s, e = .returned s ∧ Num w' s (v / 2 ^ n) := by
  obtain ⟨q, hq⟩ : ∃ q, n / 32 = q := ⟨_, rfl⟩
  obtain ⟨s, hs⟩ : ∃ s, n % 32 = s := ⟨_, rfl⟩
  have hqi : (n : Int) / 32 = q := by omega
  have hsi : (n : Int) % 32 = s := by omega
  have hs32 : s < 32 := by omega
  have hq2 : q ≤ 40000 := by omega
  have hnqs : n = 32 * q + s := by omega
  have HL := Lib.hid (lt_wc v)
  by_cases hmq : wc v ≤ q
  · rw [right_zero hnqs HL.out hmq]
    clear hR HL hq hs hnqs
    generalize wc v = m at *
    go_enter Tryd.func134, Tryd.ntmps134
    go_wp2_with fail
    go_ret
    exact ⟨Below.refl _ _, _, rfl, Num.nil w⟩
  · obtain ⟨b, off, rfl, hb, hcell⟩ := hR (by omega)
    have HC := Lib.hid hcell
    have HD := Lib.hid (fun i => right_dig v n i q s hnqs hs32)
    have HVL := Lib.hid (right_lt hnqs HL.out (by omega))
    clear hcell hR hq hs
    generalize hgm : wc v = m at *
    obtain ⟨L, hLm⟩ : ∃ L, m = q + L := ⟨m - q, by omega⟩
    subst hLm
    have hmk : ∀ w : World, (Instr.makeSlice 99 (.int .i64 (L : Int)) (.int .i64 (L : Int))).run Tryd.prog w = .ok (.slice (some ⟨w.heap.size, 0, none⟩) L L) (w.alloc (.cells (madeCells #[.int .u32 0] L) 138)) := fun w => make_words w L (by omega)
    have hLe : (q : Int) + L - q = L := by omega
    have HN := Lib.hid hnqs
    clear hnqs
    go_enter Tryd.func134, Tryd.ntmps134
    go_wp2_with fail
    have hR0 : (w.alloc (.cells (madeCells #[.int .u32 0] L) 138)).rowIs w.heap.size 138 L (fun j => .int .u32 ((if j < 0 then dig (v / 2 ^ n) j else 0 : Nat) : Nat)) := (World.rowIs_made w _ L 138).congr (fun j _ => by rw [if_neg (by omega)]; rfl)
    have hS0 : RightRel (v / 2 ^ n) L w.heap.size w.heap.size w L (.int .i64 0) (w.alloc (.cells (madeCells #[.int .u32 0] L) 138)) :=
      ⟨0, rfl, rfl, hR0, (Below.refl _ _).alloc (Nat.le_refl _) _⟩
    have HS := Lib.hid hS0
    clear hS0 hR0 hmk hLe
    generalize w.alloc (.cells (madeCells #[.int .u32 0] L) 138) = W1 at *
    obtain ⟨g, hge⟩ : ∃ g, w.heap.size = g := ⟨_, rfl⟩
    rw [hge] at HS ⊢
    have hbg : b < g := by omega
    have hgw : w.heap.size ≤ g := by omega
    clear hge
    go_loopg [8] L (fun gk v8 wr => RightRel (v / 2 ^ n) L g g w gk v8 wr)
    case atStart => exact HS.out
    case round =>
      clear HS
      obtain ⟨i, hi, rfl, hRow, hBe⟩ := hrel
      have HR := Lib.hid hRow
      have HBe := Lib.hid hBe
      by_cases hlt : i < L
      · have c0 : wr.cell? ⟨b, off + (i + q), none⟩ = some (.int .u32 (dig v (i + q) : Nat)) := (hBe.cell (p := ⟨b, off + (i + q), none⟩) hbg).trans (HC.out (i + q) (by omega))
        have c2 := hRow.cell hlt
        rw [if_neg (by omega)] at c2
        have f2 := hRow.frozen i
        have hd := dig_lt v (i + q)
        have hd1 := dig_lt v (i + q + 1)
        have HDi := Lib.hid (HD.out i)
        by_cases hlast : i + 1 < L
        · have c1 : wr.cell? ⟨b, off + (i + q + 1), none⟩ = some (.int .u32 (dig v (i + q + 1) : Nat)) := (hBe.cell (p := ⟨b, off + (i + q + 1), none⟩) hbg).trans (HC.out (i + q + 1) (by omega))
          have ho := or_word (dig v (i + q)) (dig v (i + q + 1)) hd hd1
          clear hRow hBe
          generalize dig v (i + q) = x at *
          generalize dig v (i + q + 1) = y at *
          obtain ⟨z, hz⟩ : ∃ z, x + y * 4294967296 = z := ⟨_, rfl⟩
          rw [hz] at HDi ho
          have hzb : z < 18446744073709551616 := by omega
          clear hz
          go_wp2_with fail
          go_roundg (gk - 1)
          case measure => omega
          case rel =>
            refine ⟨i + 1, by omega, by go_num, (HR.out.set i _).congr (fun j hj => ?_), HBe.out.setCell (Nat.le_refl _) _⟩
            by_cases e : j = i
            · rw [if_pos e, e, if_pos (by omega), HDi.out]
              exact int_cast_eq (shr_cast _ _)
            · rw [if_neg e]
              by_cases h2 : j < i
              · rw [if_pos h2, if_pos (by omega)]
              · rw [if_neg h2, if_neg (by omega)]
        · have he := dig_end HL.out
          rw [show q + L = i + q + 1 by omega] at he
          rw [he, Nat.zero_mul, Nat.add_zero] at HDi
          clear hRow hBe
          generalize dig v (i + q) = x at *
          go_wp2_with fail
          go_roundg (gk - 1)
          case measure => omega
          case rel =>
            refine ⟨i + 1, by omega, by go_num, (HR.out.set i _).congr (fun j hj => ?_), HBe.out.setCell (Nat.le_refl _) _⟩
            by_cases e : j = i
            · rw [if_pos e, e, if_pos (by omega), HDi.out]
              exact int_cast_eq (shr_cast _ _)
            · rw [if_neg e]
              by_cases h2 : j < i
              · rw [if_pos h2, if_pos (by omega)]
              · rw [if_neg h2, if_neg (by omega)]
      · obtain rfl : i = L := by omega
        have hR32 := (Row32.ofIs HR.out).congr (g := dig (v / 2 ^ n)) (fun j hj => by rw [if_pos hj])
        have hlt2 : v / 2 ^ n < B i := by have := HVL.out; rwa [show q + i - q = i by omega] at this
        have C := Lib.hid (trim_any (some ⟨g, 0, none⟩) i i (v / 2 ^ n) wr hR32 hlt2 (Nat.le_refl _) (by omega))
        clear hRow hBe hR32 HR hlt2 HC HD HL HVL
        go_wp2_with fail
        refine C.out.mono ?_
        rintro e w2 ⟨rfl, s2, rfl, hs2⟩
        go_wp2_with fail
        go_ret
        exact ⟨HBe.out.mono (by omega), s2, rfl, hs2⟩
end Go.Proofs.YtjjfkidddjcdcaaDoor
