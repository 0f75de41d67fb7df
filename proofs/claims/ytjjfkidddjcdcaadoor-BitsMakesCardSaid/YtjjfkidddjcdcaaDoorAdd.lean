/- Proved here: the contract of package enclosurebig's add at this program. Conditions: as each theorem says. -/
import Derived.Test.YtjjfkidddjcdcaaDoorRight
namespace Go.Proofs.YtjjfkidddjcdcaaDoor
open Go.ChangeShapes Go.WideShapes Go.ChangeAt Go.RowKit

/-- The carry into word i. -/
def carry (u v i : Nat) : Nat := (u % B i + v % B i) / B i
theorem carry_zero (u v : Nat) : carry u v 0 = 0 := by
  unfold carry
  rw [B_zero, Nat.mod_one, Nat.mod_one]
theorem carry_dig (u v i : Nat) : dig (u + v) i = (carry u v i + dig u i + dig v i) % 4294967296 := by
  have hu := Nat.div_add_mod u (B i)
  have hv := Nat.div_add_mod v (B i)
  have e : (u + v) / B i = u / B i + v / B i + carry u v i := by
    unfold carry
    have e1 : u + v = u % B i + v % B i + (u / B i + v / B i) * B i := by
      rw [Nat.add_mul, Nat.mul_comm (u / B i), Nat.mul_comm (v / B i)]
      omega
    have e2 : (u + v) / B i = (u % B i + v % B i + (u / B i + v / B i) * B i) / B i := by rw [← e1]
    rw [e2, Nat.add_mul_div_right _ _ (B_pos i), Nat.add_comm]
  unfold dig
  rw [e]
  generalize u / B i = a
  generalize v / B i = b
  omega
theorem carry_succ (u v i : Nat) : carry u v (i + 1) = (carry u v i + dig u i + dig v i) / 4294967296 := by
  unfold carry
  rw [mod_B, mod_B, B_succ, ← Nat.div_div_eq_div_mul]
  have e : u % B i + dig u i * B i + (v % B i + dig v i * B i) = u % B i + v % B i + (dig u i + dig v i) * B i := by rw [Nat.add_mul]; omega
  rw [e, Nat.add_mul_div_right _ _ (B_pos i), ← Nat.add_assoc]
theorem carry_le (u v i : Nat) : carry u v i ≤ 1 := by
  unfold carry
  have h1 := Nat.mod_lt u (B_pos i)
  have h2 := Nat.mod_lt v (B_pos i)
  have : (u % B i + v % B i) / B i < 2 := by
    rw [Nat.div_lt_iff_lt_mul (B_pos i)]
    omega
  omega
theorem carry_last {u v m : Nat} (hu : u < B m) (hv : v < B m) : carry u v m = dig (u + v) m ∧ u + v < B (m + 1) := by
  have h : u + v < B (m + 1) := by rw [B_succ]; omega
  refine ⟨?_, h⟩
  rw [dig_top _ _ h]
  unfold carry
  rw [Nat.mod_eq_of_lt hu, Nat.mod_eq_of_lt hv]

def AddRel (u v m g b : Nat) (w : World) (gk : Nat) (v6 v7 : Value) (wr : World) : Prop :=
  ∃ i : Nat, gk + i = m ∧ v7 = .int .i64 i ∧ v6 = .int .u64 (carry u v i : Nat) ∧ wr.rowIs g 138 (m + 1) (fun j => .int .u32 ((if j < i then dig (u + v) j else 0 : Nat) : Nat)) ∧ Below b w wr

theorem add_row {w : World} {g m u v i : Nat} (x : Int) (hx : x = (dig (u + v) i : Nat)) (h : w.rowIs g 138 (m + 1) (fun j => .int .u32 ((if j < i then dig (u + v) j else 0 : Nat) : Nat))) :
    (w.setCell ⟨g, i, none⟩ (.int .u32 x)).rowIs g 138 (m + 1) (fun j => .int .u32 ((if j < i + 1 then dig (u + v) j else 0 : Nat) : Nat)) :=
  (h.set i _).congr (fun j _ => by
    by_cases e : j = i
    · rw [if_pos e, e, if_pos (by omega), hx]
    · rw [if_neg e]
      by_cases h2 : j < i
      · rw [if_pos h2, if_pos (by omega)]
      · rw [if_neg h2, if_neg (by omega)])

set_option maxRecDepth 100000 in
set_option maxHeartbeats 2000000 in
theorem add_any (A A2 : Option Addr) (c c2 u v : Nat) (w : World) (hR : Row32 w A (wc u) (dig u)) (hR2 : Row32 w A2 (wc v) (dig v)) (hu : wc u ≤ 100000) (hv : wc v ≤ 100000) :
    Calls Tryd.prog 127 #[.slice A (wc u) c, .slice A2 (wc v) c2] w fun e w' => Below w.heap.size w w' ∧ ∃ s, e = .returned s ∧ Num w' s (u + v) := by
  by_cases hle : wc v ≤ wc u
  · have HU := Lib.hid (lt_wc u)
    have HV := Lib.hid (Nat.lt_of_lt_of_le (lt_wc v) (B_le (show wc v ≤ wc u by omega)))
    have HV0 := Lib.hid (fun i (h : wc v ≤ i) => dig_end (Nat.lt_of_lt_of_le (lt_wc v) (B_le h)))
    have HR := Lib.hid hR
    have HR2 := Lib.hid hR2
    clear hR hR2
    generalize wc u = m at *
    generalize wc v = n at *
    have hmk : ∀ w : World, (Instr.makeSlice 99 (.int .i64 ((m : Int) + 1)) (.int .i64 ((m : Int) + 1))).run Tryd.prog w = .ok (.slice (some ⟨w.heap.size, 0, none⟩) (m + 1) (m + 1)) (w.alloc (.cells (madeCells #[.int .u32 0] (m + 1)) 138)) := fun w => make_words w (m + 1) (by omega)
    go_enter Tryd.func127, Tryd.ntmps127
    go_wp2_with fail
    have hR0 : (w.alloc (.cells (madeCells #[.int .u32 0] (m + 1)) 138)).rowIs w.heap.size 138 (m + 1) (fun j => .int .u32 ((if j < 0 then dig (u + v) j else 0 : Nat) : Nat)) := (World.rowIs_made w _ (m + 1) 138).congr (fun j _ => by rw [if_neg (by omega)]; rfl)
    have hS0 : AddRel u v m w.heap.size w.heap.size w m (.int .u64 0) (.int .i64 0) (w.alloc (.cells (madeCells #[.int .u32 0] (m + 1)) 138)) :=
      ⟨0, rfl, rfl, by rw [carry_zero]; rfl, hR0, (Below.refl _ _).alloc (Nat.le_refl _) _⟩
    have HS := Lib.hid hS0
    clear hS0 hR0 hmk
    generalize w.alloc (.cells (madeCells #[.int .u32 0] (m + 1)) 138) = W1 at *
    obtain ⟨g, hge⟩ : ∃ g, w.heap.size = g := ⟨_, rfl⟩
    rw [hge] at HS ⊢
    have hgw : w.heap.size ≤ g := by omega
    have hgw2 : g ≤ w.heap.size := by omega
    clear hge
    go_loopg [6, 7] m (fun gk v6 v7 wr => AddRel u v m g g w gk v6 v7 wr)
    case atStart => exact HS.out
    case round =>
      clear HS
      obtain ⟨i, hi, rfl, rfl, hRow, hBe⟩ := hrel
      have HRow := Lib.hid hRow
      have HBe := Lib.hid hBe
      have hc := carry_le u v i
      by_cases hlt : i < m
      · obtain ⟨b, off, rfl, hb, hcell⟩ := HR.out (by omega)
        have c0 : wr.cell? ⟨b, off + i, none⟩ = some (.int .u32 (dig u i : Nat)) := (hBe.cell (p := ⟨b, off + i, none⟩) (Nat.lt_of_lt_of_le hb hgw)).trans (hcell i hlt)
        have f2 := hRow.frozen i
        have ex := hRow.cell (i := i) (by omega)
        have hd := dig_lt u i
        have hd2 := dig_lt v i
        have HCD := Lib.hid (carry_dig u v i)
        have HCS := Lib.hid (carry_succ u v i)
        clear hRow hBe hcell
        by_cases hln : i < n
        · obtain ⟨b2, off2, rfl, hb2, hcell2⟩ := HR2.out (by omega)
          have c1 : wr.cell? ⟨b2, off2 + i, none⟩ = some (.int .u32 (dig v i : Nat)) := (HBe.out.cell (p := ⟨b2, off2 + i, none⟩) (Nat.lt_of_lt_of_le hb2 hgw)).trans (hcell2 i hln)
          clear hcell2
          generalize carry u v i = C at *
          generalize dig u i = x at *
          generalize dig v i = y at *
          go_wp2_with fail
          go_roundg (gk - 1)
          case measure => omega
          case rel => exact ⟨i + 1, by omega, by go_num, by rw [HCS.out]; go_num, add_row _ (by rw [HCD.out]; go_num) HRow.out, HBe.out.setCell (Nat.le_refl _) _⟩
        · have hy := HV0.out i (by omega)
          rw [hy, Nat.add_zero] at HCD HCS
          clear hy hd2
          generalize carry u v i = C at *
          generalize dig u i = x at *
          go_wp2_with fail
          go_roundg (gk - 1)
          case measure => omega
          case rel => exact ⟨i + 1, by omega, by go_num, by rw [HCS.out]; go_num, add_row _ (by rw [HCD.out]; go_num) HRow.out, HBe.out.setCell (Nat.le_refl _) _⟩
      · obtain rfl : i = m := by omega
        have f2 := hRow.frozen i
        have ex := hRow.cell (i := i) (by omega)
        obtain ⟨hl1, hl2⟩ := carry_last HU.out HV.out
        have hRow2 := add_row (carry u v i : Nat) (by rw [hl1]) hRow
        have hR32 := (Row32.ofIs hRow2).congr (g := dig (u + v)) (fun j hj => by rw [if_pos hj])
        have C := Lib.hid (trim_any (some ⟨g, 0, none⟩) (i + 1) (i + 1) (u + v) _ hR32 hl2 (Nat.le_refl _) (by omega))
        clear hRow hBe hR32 hRow2 HRow hl1 hl2
        generalize carry u v i = K at *
        have hK : (K : Int) % 4294967296 = K := by omega
        go_wp2_with fail
        refine C.out.mono ?_
        rintro e w2 ⟨rfl, s2, rfl, hs2⟩
        go_wp2_with fail
        go_ret
        exact ⟨(HBe.out.setCell (Nat.le_refl _) _).mono (by omega), s2, rfl, hs2⟩
  · have HU := Lib.hid (lt_wc v)
    have HV := Lib.hid (Nat.lt_of_lt_of_le (lt_wc u) (B_le (show wc u ≤ wc v by omega)))
    have HV0 := Lib.hid (fun i (h : wc u ≤ i) => dig_end (Nat.lt_of_lt_of_le (lt_wc u) (B_le h)))
    have HR := Lib.hid hR2
    have HR2 := Lib.hid hR
    clear hR hR2
    generalize wc v = m at *
    generalize wc u = n at *
    have hmk : ∀ w : World, (Instr.makeSlice 99 (.int .i64 ((m : Int) + 1)) (.int .i64 ((m : Int) + 1))).run Tryd.prog w = .ok (.slice (some ⟨w.heap.size, 0, none⟩) (m + 1) (m + 1)) (w.alloc (.cells (madeCells #[.int .u32 0] (m + 1)) 138)) := fun w => make_words w (m + 1) (by omega)
    go_enter Tryd.func127, Tryd.ntmps127
    go_wp2_with fail
    have hR0 : (w.alloc (.cells (madeCells #[.int .u32 0] (m + 1)) 138)).rowIs w.heap.size 138 (m + 1) (fun j => .int .u32 ((if j < 0 then dig (v + u) j else 0 : Nat) : Nat)) := (World.rowIs_made w _ (m + 1) 138).congr (fun j _ => by rw [if_neg (by omega)]; rfl)
    have hS0 : AddRel v u m w.heap.size w.heap.size w m (.int .u64 0) (.int .i64 0) (w.alloc (.cells (madeCells #[.int .u32 0] (m + 1)) 138)) :=
      ⟨0, rfl, rfl, by rw [carry_zero]; rfl, hR0, (Below.refl _ _).alloc (Nat.le_refl _) _⟩
    have HS := Lib.hid hS0
    clear hS0 hR0 hmk
    generalize w.alloc (.cells (madeCells #[.int .u32 0] (m + 1)) 138) = W1 at *
    obtain ⟨g, hge⟩ : ∃ g, w.heap.size = g := ⟨_, rfl⟩
    rw [hge] at HS ⊢
    have hgw : w.heap.size ≤ g := by omega
    have hgw2 : g ≤ w.heap.size := by omega
    clear hge
    go_loopg [6, 7] m (fun gk v6 v7 wr => AddRel v u m g g w gk v6 v7 wr)
    case atStart => exact HS.out
    case round =>
      clear HS
      obtain ⟨i, hi, rfl, rfl, hRow, hBe⟩ := hrel
      have HRow := Lib.hid hRow
      have HBe := Lib.hid hBe
      have hc := carry_le v u i
      by_cases hlt : i < m
      · obtain ⟨b, off, rfl, hb, hcell⟩ := HR.out (by omega)
        have c0 : wr.cell? ⟨b, off + i, none⟩ = some (.int .u32 (dig v i : Nat)) := (hBe.cell (p := ⟨b, off + i, none⟩) (Nat.lt_of_lt_of_le hb hgw)).trans (hcell i hlt)
        have f2 := hRow.frozen i
        have ex := hRow.cell (i := i) (by omega)
        have hd := dig_lt v i
        have hd2 := dig_lt u i
        have HCD := Lib.hid (carry_dig v u i)
        have HCS := Lib.hid (carry_succ v u i)
        clear hRow hBe hcell
        by_cases hln : i < n
        · obtain ⟨b2, off2, rfl, hb2, hcell2⟩ := HR2.out (by omega)
          have c1 : wr.cell? ⟨b2, off2 + i, none⟩ = some (.int .u32 (dig u i : Nat)) := (HBe.out.cell (p := ⟨b2, off2 + i, none⟩) (Nat.lt_of_lt_of_le hb2 hgw)).trans (hcell2 i hln)
          clear hcell2
          generalize carry v u i = C at *
          generalize dig v i = x at *
          generalize dig u i = y at *
          go_wp2_with fail
          go_roundg (gk - 1)
          case measure => omega
          case rel => exact ⟨i + 1, by omega, by go_num, by rw [HCS.out]; go_num, add_row _ (by rw [HCD.out]; go_num) HRow.out, HBe.out.setCell (Nat.le_refl _) _⟩
        · have hy := HV0.out i (by omega)
          rw [hy, Nat.add_zero] at HCD HCS
          clear hy hd2
          generalize carry v u i = C at *
          generalize dig v i = x at *
          go_wp2_with fail
          go_roundg (gk - 1)
          case measure => omega
          case rel => exact ⟨i + 1, by omega, by go_num, by rw [HCS.out]; go_num, add_row _ (by rw [HCD.out]; go_num) HRow.out, HBe.out.setCell (Nat.le_refl _) _⟩
      · obtain rfl : i = m := by omega
        have f2 := hRow.frozen i
        have ex := hRow.cell (i := i) (by omega)
        obtain ⟨hl1, hl2⟩ := carry_last HU.out HV.out
        have hRow2 := add_row (carry v u i : Nat) (by rw [hl1]) hRow
        have hR32 := (Row32.ofIs hRow2).congr (g := dig (v + u)) (fun j hj => by rw [if_pos hj])
        have C := Lib.hid (trim_any (some ⟨g, 0, none⟩) (i + 1) (i + 1) (v + u) _ hR32 hl2 (Nat.le_refl _) (by omega))
        clear hRow hBe hR32 hRow2 HRow hl1 hl2
        generalize carry v u i = K at *
        have hK : (K : Int) % 4294967296 = K := by omega
        go_wp2_with fail
        refine C.out.mono ?_
        rintro e w2 ⟨rfl, s2, rfl, hs2⟩
        go_wp2_with fail
        go_ret
        exact ⟨(HBe.out.setCell (Nat.le_refl _) _).mono (by omega), s2, rfl, by rw [Nat.add_comm u v]; exact hs2⟩
end Go.Proofs.YtjjfkidddjcdcaaDoor
