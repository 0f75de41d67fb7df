/- Proved here: the contract of package enclosurebig's right at this program. Conditions: as each theorem says. -/
import Derived.Test.YtjjfkidddjcdcaaDoorLeft
namespace Go.Proofs.YtjjfkidddjcdcaaDoor
open Go.ChangeShapes Go.WideShapes Go.ChangeAt Go.RowKit

theorem two_words (v k : Nat) : v / B k % 18446744073709551616 = dig v k + dig v (k + 1) * 4294967296 := by
  unfold dig
  rw [B_succ, ← Nat.div_div_eq_div_mul]
  generalize v / B k = V
  omega
theorem shift_mod (V s : Nat) (hs : s < 32) : V % 18446744073709551616 / 2 ^ s % 4294967296 = V / 2 ^ s % 4294967296 := by
  have e : 18446744073709551616 = 2 ^ s * (2 ^ (32 - s) * 4294967296) := by
    rw [← Nat.mul_assoc, ← Nat.pow_add, show s + (32 - s) = 32 by omega]
  rw [e, Nat.mod_mul_right_div_self, Nat.mod_mul_left_mod]
theorem right_dig (v n i q s : Nat) (h : n = 32 * q + s) (hs : s < 32) : dig (v / 2 ^ n) i = (dig v (i + q) + dig v (i + q + 1) * 4294967296) / 2 ^ s % 4294967296 := by
  rw [← two_words, shift_mod _ _ hs]
  have e : 2 ^ n = B q * 2 ^ s := by rw [h, Nat.pow_add]; rfl
  rw [Nat.div_div_eq_div_mul, B_add]
  show v / 2 ^ n / B i % 4294967296 = _
  rw [e, Nat.div_div_eq_div_mul, show B q * 2 ^ s * B i = B i * B q * 2 ^ s by grind]
theorem dig_end {v m : Nat} (h : v < B m) : dig v m = 0 := by
  unfold dig
  rw [Nat.div_eq_of_lt h]
theorem right_zero {v n m q s : Nat} (h : n = 32 * q + s) (hv : v < B m) (hm : m ≤ q) : v / 2 ^ n = 0 := by
  have e : 2 ^ n = B q * 2 ^ s := by rw [h, Nat.pow_add]; rfl
  rw [e]
  apply Nat.div_eq_of_lt
  have h1 := B_le hm
  have h2 : B q ≤ B q * 2 ^ s := Nat.le_mul_of_pos_right _ (Nat.two_pow_pos s)
  omega
theorem right_lt {v n m q s : Nat} (h : n = 32 * q + s) (hv : v < B m) (hm : q ≤ m) : v / 2 ^ n < B (m - q) := by
  have e : 2 ^ n = B q * 2 ^ s := by rw [h, Nat.pow_add]; rfl
  rw [e, ← Nat.div_div_eq_div_mul]
  have h1 : v / B q < B (m - q) := by
    rw [Nat.div_lt_iff_lt_mul (B_pos q), ← B_add, show m - q + q = m by omega]
    exact hv
  exact Nat.lt_of_le_of_lt (Nat.div_le_self _ _) h1

theorem shr_cast (z s : Nat) : (z : Int) / 2 ^ s % 4294967296 = ((z / 2 ^ s % 4294967296 : Nat) : Int) := by
  rw [pow_cast, ← Int.natCast_ediv]
  generalize z / 2 ^ s = t
  omega
theorem int_cast_eq {k : IntKind} {a b : Int} (h : a = b) : Value.int k a = .int k b := by rw [h]

def RightRel (V L g b : Nat) (w : World) (gk : Nat) (v8 : Value) (wr : World) : Prop :=
  ∃ i : Nat, gk + i = L ∧ v8 = .int .i64 i ∧ wr.rowIs g 138 L (fun j => .int .u32 ((if j < i then dig V j else 0 : Nat) : Nat)) ∧ Below b w wr

set_option maxRecDepth 100000 in
set_option maxHeartbeats 1000000 in
theorem right_any (A : Option Addr) (c v n : Nat) (w : World) (hR : Row32 w A (wc v) (dig v)) (hv : wc v ≤ 100000) (hn : n ≤ 1000000) :
    Calls Tryd.prog 134 #[.slice A (wc v) c, .int .u64 n] w fun e w' => Below w.heap.size w w' ∧ ∃ s, e = .returned s ∧ Num w' s (v / 2 ^ n) := by
  obtain ⟨q, hq⟩ : ∃ q, n / 32 = q := ⟨_, rfl⟩
  obtain ⟨s, hs⟩ : ∃ s, n % 32 = s := ⟨_, rfl⟩
  have hqi : (n : Int) / 32 = q := by omega
  have hsi : (n : Int) % 32 = s := by omega
  have hs32 : s < 32 := by omega
  have hq2 : q ≤ 40000 := by omega
  have hnqs : n = 32 * q + s := by omega
  have HL := Lib.hid (lt_wc v)
  by_cases hmq : wc v ≤ q
  · rw [right_zero hnqs HL.out hmq]
    clear hR HL hq hs hnqs
    generalize wc v = m at *
    go_enter Tryd.func134, Tryd.ntmps134
    go_wp2_with fail
    go_ret
    exact ⟨Below.refl _ _, _, rfl, Num.nil w⟩
  · obtain ⟨b, off, rfl, hb, hcell⟩ := hR (by omega)
    have HC := Lib.hid hcell
    have HD := Lib.hid (fun i => right_dig v n i q s hnqs hs32)
    have HVL := Lib.hid (right_lt hnqs HL.out (by omega))
    clear hcell hR hq hs
    generalize hgm : wc v = m at *
    obtain ⟨L, hLm⟩ : ∃ L, m = q + L := ⟨m - q, by omega⟩
    subst hLm
    have hmk : ∀ w : World, (Instr.makeSlice 99 (.int .i64 (L : Int)) (.int .i64 (L : Int))).run Tryd.prog w = .ok (.slice (some ⟨w.heap.size, 0, none⟩) L L) (w.alloc (.cells (madeCells #[.int .u32 0] L) 138)) := fun w => make_words w L (by omega)
    have hLe : (q : Int) + L - q = L := by omega
    have HN := Lib.hid hnqs
    clear hnqs
    go_enter Tryd.func134, Tryd.ntmps134
    go_wp2_with fail
    have hR0 : (w.alloc (.cells (madeCells #[.int .u32 0] L) 138)).rowIs w.heap.size 138 L (fun j => .int .u32 ((if j < 0 then dig (v / 2 ^ n) j else 0 : Nat) : Nat)) := (World.rowIs_made w _ L 138).congr (fun j _ => by rw [if_neg (by omega)]; rfl)
    have hS0 : RightRel (v / 2 ^ n) L w.heap.size w.heap.size w L (.int .i64 0) (w.alloc (.cells (madeCells #[.int .u32 0] L) 138)) :=
      ⟨0, rfl, rfl, hR0, (Below.refl _ _).alloc (Nat.le_refl _) _⟩
    have HS := Lib.hid hS0
    clear hS0 hR0 hmk hLe
    generalize w.alloc (.cells (madeCells #[.int .u32 0] L) 138) = W1 at *
    obtain ⟨g, hge⟩ : ∃ g, w.heap.size = g := ⟨_, rfl⟩
    rw [hge] at HS ⊢
    have hbg : b < g := by omega
    have hgw : w.heap.size ≤ g := by omega
    clear hge
    go_loopg [8] L (fun gk v8 wr => RightRel (v / 2 ^ n) L g g w gk v8 wr)
    case atStart => exact HS.out
    case round =>
      clear HS
      obtain ⟨i, hi, rfl, hRow, hBe⟩ := hrel
      have HR := Lib.hid hRow
      have HBe := Lib.hid hBe
      by_cases hlt : i < L
      · have c0 : wr.cell? ⟨b, off + (i + q), none⟩ = some (.int .u32 (dig v (i + q) : Nat)) := (hBe.cell (p := ⟨b, off + (i + q), none⟩) hbg).trans (HC.out (i + q) (by omega))
        have c2 := hRow.cell hlt
        rw [if_neg (by omega)] at c2
        have f2 := hRow.frozen i
        have hd := dig_lt v (i + q)
        have hd1 := dig_lt v (i + q + 1)
        have HDi := Lib.hid (HD.out i)
        by_cases hlast : i + 1 < L
        · have c1 : wr.cell? ⟨b, off + (i + q + 1), none⟩ = some (.int .u32 (dig v (i + q + 1) : Nat)) := (hBe.cell (p := ⟨b, off + (i + q + 1), none⟩) hbg).trans (HC.out (i + q + 1) (by omega))
          have ho := or_word (dig v (i + q)) (dig v (i + q + 1)) hd hd1
          clear hRow hBe
          generalize dig v (i + q) = x at *
          generalize dig v (i + q + 1) = y at *
          obtain ⟨z, hz⟩ : ∃ z, x + y * 4294967296 = z := ⟨_, rfl⟩
          rw [hz] at HDi ho
          have hzb : z < 18446744073709551616 := by omega
          clear hz
          go_wp2_with fail
          go_roundg (gk - 1)
          case measure => omega
          case rel =>
            refine ⟨i + 1, by omega, by go_num, (HR.out.set i _).congr (fun j hj => ?_), HBe.out.setCell (Nat.le_refl _) _⟩
            by_cases e : j = i
            · rw [if_pos e, e, if_pos (by omega), HDi.out]
              exact int_cast_eq (shr_cast _ _)
            · rw [if_neg e]
              by_cases h2 : j < i
              · rw [if_pos h2, if_pos (by omega)]
              · rw [if_neg h2, if_neg (by omega)]
        · have he := dig_end HL.out
          rw [show q + L = i + q + 1 by omega] at he
          rw [he, Nat.zero_mul, Nat.add_zero] at HDi
          clear hRow hBe
          generalize dig v (i + q) = x at *
          go_wp2_with fail
          go_roundg (gk - 1)
          case measure => omega
          case rel =>
            refine ⟨i + 1, by omega, by go_num, (HR.out.set i _).congr (fun j hj => ?_), HBe.out.setCell (Nat.le_refl _) _⟩
            by_cases e : j = i
            · rw [if_pos e, e, if_pos (by omega), HDi.out]
              exact int_cast_eq (shr_cast _ _)
            · rw [if_neg e]
              by_cases h2 : j < i
              · rw [if_pos h2, if_pos (by omega)]
              · rw [if_neg h2, if_neg (by omega)]
      · obtain rfl : i = L := by omega
        have hR32 := (Row32.ofIs HR.out).congr (g := dig (v / 2 ^ n)) (fun j hj => by rw [if_pos hj])
        have hlt2 : v / 2 ^ n < B i := by have := HVL.out; rwa [show q + i - q = i by omega] at this
        have C := Lib.hid (trim_any (some ⟨g, 0, none⟩) i i (v / 2 ^ n) wr hR32 hlt2 (Nat.le_refl _) (by omega))
        clear hRow hBe hR32 HR hlt2 HC HD HL HVL
        go_wp2_with fail
        refine C.out.mono ?_
        rintro e w2 ⟨rfl, s2, rfl, hs2⟩
        go_wp2_with fail
        go_ret
        exact ⟨HBe.out.mono (by omega), s2, rfl, hs2⟩
end Go.Proofs.YtjjfkidddjcdcaaDoor
