/- Proved here: the contract of package enclosurebig's add at this program. Conditions: as each theorem says.
   Proved here: the contract of package enclosurebig's mul at this program. Conditions: as each theorem says. -/
import Derived.Test.YtjjfkidddjcdcaaDoorRight
namespace Go.Proofs.YtjjfkidddjcdcaaDoor
open Go.ChangeShapes Go.WideShapes Go.ChangeAt Go.RowKit

/-- The carry into word i. -/
def carry (u v i : Nat) : Nat := (u % B i + v % B i) / B i
theorem carry_zero (u v : Nat) : carry u v 0 = 0 := by
  unfold carry
  rw [B_zero, Nat.mod_one, Nat.mod_one]
theorem carry_dig (u v i : Nat) : dig (u + v) i = (carry u v i + dig u i + dig v i) % 4294967296 := by
  have hu := Nat.div_add_mod u (B i)
  have hv := Nat.div_add_mod v (B i)
  have e : (u + v) / B i = u / B i + v / B i + carry u v i := by
    unfold carry
    have e1 : u + v = u % B i + v % B i + (u / B i + v / B i) * B i := by
      rw [Nat.add_mul, Nat.mul_comm (u / B i), Nat.mul_comm (v / B i)]
      omega
    have e2 : (u + v) / B i = (u % B i + v % B i + (u / B i + v / B i) * B i) / B i := by rw [← e1]
    rw [e2, Nat.add_mul_div_right _ _ (B_pos i), Nat.add_comm]
  unfold dig
  rw [e]
  generalize u / B i = a
  generalize v / B i = b
  omega
theorem carry_succ (u v i : Nat) : carry u v (i + 1) = (carry u v i + dig u i + dig v i) / 4294967296 := by
  unfold carry
  rw [mod_B, mod_B, B_succ, ← Nat.div_div_eq_div_mul]
  have e : u % B i + dig u i * B i + (v % B i + dig v i * B i) = u % B i + v % B i + (dig u i + dig v i) * B i := by rw [Nat.add_mul]; omega
  rw [e, Nat.add_mul_div_right _ _ (B_pos i), ← Nat.add_assoc]
theorem carry_le (u v i : Nat) : carry u v i ≤ 1 := by
  unfold carry
  have h1 := Nat.mod_lt u (B_pos i)
  have h2 := Nat.mod_lt v (B_pos i)
  have : (u % B i + v % B i) / B i < 2 := by
    rw [Nat.div_lt_iff_lt_mul (B_pos i)]
    omega
  omega
theorem carry_last {u v m : Nat} (hu : u < B m) (hv : v < B m) : carry u v m = dig (u + v) m ∧ u + v < B (m + 1) := by
  have h : u + v < B (m + 1) := by rw [B_succ]; omega
  refine ⟨?_, h⟩
  rw [dig_top _ _ h]
  unfold carry
  rw [Nat.mod_eq_of_lt hu, Nat.mod_eq_of_lt hv]

def AddRel (u v m g b : Nat) (w : World) (gk : Nat) (v6 v7 : Value) (wr : World) : Prop :=
  ∃ i : Nat, gk + i = m ∧ v7 = .int .i64 i ∧ v6 = .int .u64 (carry u v i : Nat) ∧ wr.rowIs g 138 (m + 1) (fun j => .int .u32 ((if j < i then dig (u + v) j else 0 : Nat) : Nat)) ∧ Below b w wr

theorem add_row {w : World} {g m u v i : Nat} (x : Int) (hx : x = (dig (u + v) i : Nat)) (h : w.rowIs g 138 (m + 1) (fun j => .int .u32 ((if j < i then dig (u + v) j else 0 : Nat) : Nat))) :
    (w.setCell ⟨g, i, none⟩ (.int .u32 x)).rowIs g 138 (m + 1) (fun j => .int .u32 ((if j < i + 1 then dig (u + v) j else 0 : Nat) : Nat)) :=
  (h.set i _).congr (fun j _ => by
    by_cases e : j = i
    · rw [if_pos e, e, if_pos (by omega), hx]
    · rw [if_neg e]
      by_cases h2 : j < i
      · rw [if_pos h2, if_pos (by omega)]
      · rw [if_neg h2, if_neg (by omega)])

set_option maxRecDepth 100000 in
set_option maxHeartbeats 2000000 in
theorem add_any (A A2 : Option Addr) (c c2 u v : Nat) (w : World) (hR : Row32 w A (wc u) (dig u)) (hR2 : Row32 w A2 (wc v) (dig v)) (hu : wc u ≤ 100000) (hv : wc v ≤ 100000) :
    Calls Tryd.prog 127 #[.slice A (wc u) c, .slice A2 (wc v) c2] w fun e w' => Below w.heap.size w w' ∧ ∃ s, e = .returned s ∧ Num w' s (u + v) := by
  by_cases hle : wc v ≤ wc u
  · have HU := Lib.hid (lt_wc u)
    have HV := Lib.hid (Nat.lt_of_lt_of_le (lt_wc v) (B_le (show wc v ≤ wc u by omega)))
    have HV0 := Lib.hid (fun i (h : wc v ≤ i) => dig_end (Nat.lt_of_lt_of_le (lt_wc v) (B_le h)))
    have HR := Lib.hid hR
    have HR2 := Lib.hid hR2
    clear hR hR2
    generalize wc u = m at *
    generalize wc v = n at *
    have hmk : ∀ w : World, (Instr.makeSlice 99 (.int .i64 ((m : Int) + 1)) (.int .i64 ((m : Int) + 1))).run Tryd.prog w = .ok (.slice (some ⟨w.heap.size, 0, none⟩) (m + 1) (m + 1)) (w.alloc (.cells (madeCells #[.int .u32 0] (m + 1)) 138)) := fun w => make_words w (m + 1) (by omega)
    go_enter Tryd.func127, Tryd.ntmps127
    go_wp2_with fail
    have hR0 : (w.alloc (.cells (madeCells #[.int .u32 0] (m + 1)) 138)).rowIs w.heap.size 138 (m + 1) (fun j => .int .u32 ((if j < 0 then dig (u + v) j else 0 : Nat) : Nat)) := (World.rowIs_made w _ (m + 1) 138).congr (fun j _ => by rw [if_neg (by omega)]; rfl)
    have hS0 : AddRel u v m w.heap.size w.heap.size w m (.int .u64 0) (.int .i64 0) (w.alloc (.cells (madeCells #[.int .u32 0] (m + 1)) 138)) :=
      ⟨0, rfl, rfl, by rw [carry_zero]; rfl, hR0, (Below.refl _ _).alloc (Nat.le_refl _) _⟩
    have HS := Lib.hid hS0
    clear hS0 hR0 hmk
    generalize w.alloc (.cells (madeCells #[.int .u32 0] (m + 1)) 138) = W1 at *
    obtain ⟨g, hge⟩ : ∃ g, w.heap.size = g := ⟨_, rfl⟩
    rw [hge] at HS ⊢
    have hgw : w.heap.size ≤ g := by omega
    have hgw2 : g ≤ w.heap.size := by omega
    clear hge
    go_loopg [6, 7] m (fun gk v6 v7 wr => AddRel u v m g g w gk v6 v7 wr)
    case atStart => exact HS.out
    case round =>
      clear HS
      obtain ⟨i, hi, rfl, rfl, hRow, hBe⟩ := hrel
      have HRow := Lib.hid hRow
      have HBe := Lib.hid hBe
      have hc := carry_le u v i
      by_cases hlt : i < m
      · obtain ⟨b, off, rfl, hb, hcell⟩ := HR.out (by omega)
        have c0 : wr.cell? ⟨b, off + i, none⟩ = some (.int .u32 (dig u i : Nat)) := (hBe.cell (p := ⟨b, off + i, none⟩) (Nat.lt_of_lt_of_le hb hgw)).trans (hcell i hlt)
        have f2 := hRow.frozen i
        have ex := hRow.cell (i := i) (by omega)
        have hd := dig_lt u i
        have hd2 := dig_lt v i
        have HCD := Lib.hid (carry_dig u v i)
        have HCS := Lib.hid (carry_succ u v i)
        clear hRow hBe hcell
        by_cases hln : i < n
        · obtain ⟨b2, off2, rfl, hb2, hcell2⟩ := HR2.out (by omega)
          have c1 : wr.cell? ⟨b2, off2 + i, none⟩ = some (.int .u32 (dig v i : Nat)) := (HBe.out.cell (p := ⟨b2, off2 + i, none⟩) (Nat.lt_of_lt_of_le hb2 hgw)).trans (hcell2 i hln)
          clear hcell2
          generalize carry u v i = C at *
          generalize dig u i = x at *
          generalize dig v i = y at *
          go_wp2_with fail
          go_roundg (gk - 1)
          case measure => omega
          case rel => exact ⟨i + 1, by omega, by go_num, by rw [HCS.out]; go_num, add_row _ (by rw [HCD.out]; go_num) HRow.out, HBe.out.setCell (Nat.le_refl _) _⟩
        · have hy := HV0.out i (by omega)
          rw [hy, Nat.add_zero] at HCD HCS
          clear hy hd2
          generalize carry u v i = C at *
          generalize dig u i = x at *
          go_wp2_with fail
          go_roundg (gk - 1)
          case measure => omega
          case rel => exact ⟨i + 1, by omega, by go_num, by rw [HCS.out]; go_num, add_row _ (by rw [HCD.out]; go_num) HRow.out, HBe.out.setCell (Nat.le_refl _) _⟩
      · obtain rfl : i = m := by omega
        have f2 := hRow.frozen i
        have ex := hRow.cell (i := i) (by omega)
        obtain ⟨hl1, hl2⟩ := carry_last HU.out HV.out
        have hRow2 := add_row (carry u v i : Nat) (by rw [hl1]) hRow
        have hR32 := (Row32.ofIs hRow2).congr (g := dig (u + v)) (fun j hj => by rw [if_pos hj])
        have C := Lib.hid (trim_any (some ⟨g, 0, none⟩) (i + 1) (i + 1) (u + v) _ hR32 hl2 (Nat.le_refl _) (by omega))
        clear hRow hBe hR32 hRow2 HRow hl1 hl2
        generalize carry u v i = K at *
        have hK : (K : Int) % 4294967296 = K := by omega
        go_wp2_with fail
        refine C.out.mono ?_
        rintro e w2 ⟨rfl, s2, rfl, hs2⟩
        go_wp2_with fail
        go_ret
        exact ⟨(HBe.out.setCell (Nat.le_refl _) _).mono (by omega), s2, rfl, hs2⟩
  · have HU := Lib.hid (lt_wc v)
    have HV := Lib.hid (Nat.lt_of_lt_of_le (lt_wc u) (B_le (show wc u ≤ wc v by omega)))
    have HV0 := Lib.hid (fun i (h : wc u ≤ i) => dig_end (Nat.lt_of_lt_of_le (lt_wc u) (B_le h)))
    have HR := Lib.hid hR2
    have HR2 := Lib.hid hR
    clear hR hR2
    generalize wc v = m at *
    generalize wc u = n at *
    have hmk : ∀ w : World, (Instr.makeSlice 99 (.int .i64 ((m : Int) + 1)) (.int .i64 ((m : Int) + 1))).run Tryd.prog w = .ok (.slice (some ⟨w.heap.size, 0, none⟩) (m + 1) (m + 1)) (w.alloc (.cells (madeCells #[.int .u32 0] (m + 1)) 138)) := fun w => make_words w (m + 1) (by omega)
    go_enter Tryd.func127, Tryd.ntmps127
    go_wp2_with fail
    have hR0 : (w.alloc (.cells (madeCells #[.int .u32 0] (m + 1)) 138)).rowIs w.heap.size 138 (m + 1) (fun j => .int .u32 ((if j < 0 then dig (v + u) j else 0 : Nat) : Nat)) := (World.rowIs_made w _ (m + 1) 138).congr (fun j _ => by rw [if_neg (by omega)]; rfl)
    have hS0 : AddRel v u m w.heap.size w.heap.size w m (.int .u64 0) (.int .i64 0) (w.alloc (.cells (madeCells #[.int .u32 0] (m + 1)) 138)) :=
      ⟨0, rfl, rfl, by rw [carry_zero]; rfl, hR0, (Below.refl _ _).alloc (Nat.le_refl _) _⟩
    have HS := Lib.hid hS0
    clear hS0 hR0 hmk
    generalize w.alloc (.cells (madeCells #[.int .u32 0] (m + 1)) 138) = W1 at *
    obtain ⟨g, hge⟩ : ∃ g, w.heap.size = g := ⟨_, rfl⟩
    rw [hge] at HS ⊢
    have hgw : w.heap.size ≤ g := by omega
    have hgw2 : g ≤ w.heap.size := by omega
    clear hge
    go_loopg [6, 7] m (fun gk v6 v7 wr => AddRel v u m g g w gk v6 v7 wr)
    case atStart => exact HS.out
    case round =>
      clear HS
      obtain ⟨i, hi, rfl, rfl, hRow, hBe⟩ := hrel
      have HRow := Lib.hid hRow
      have HBe := Lib.hid hBe
      have hc := carry_le v u i
      by_cases hlt : i < m
      · obtain ⟨b, off, rfl, hb, hcell⟩ := HR.out (by omega)
        have c0 : wr.cell? ⟨b, off + i, none⟩ = some (.int .u32 (dig v i : Nat)) := (hBe.cell (p := ⟨b, off + i, none⟩) (Nat.lt_of_lt_of_le hb hgw)).trans (hcell i hlt)
        have f2 := hRow.frozen i
        have ex := hRow.cell (i := i) (by omega)
        have hd := dig_lt v i
        have hd2 := dig_lt u i
        have HCD := Lib.hid (carry_dig v u i)
        have HCS := Lib.hid (carry_succ v u i)
        clear hRow hBe hcell
        by_cases hln : i < n
        · obtain ⟨b2, off2, rfl, hb2, hcell2⟩ := HR2.out (by omega)
          have c1 : wr.cell? ⟨b2, off2 + i, none⟩ = some (.int .u32 (dig u i : Nat)) := (HBe.out.cell (p := ⟨b2, off2 + i, none⟩) (Nat.lt_of_lt_of_le hb2 hgw)).trans (hcell2 i hln)
          clear hcell2
          generalize carry v u i = C at *
          generalize dig v i = x at *
          generalize dig u i = y at *
          go_wp2_with fail
          go_roundg (gk - 1)
          case measure => omega
          case rel => exact ⟨i + 1, by omega, by go_num, by rw [HCS.out]; go_num, add_row _ (by rw [HCD.out]; go_num) HRow.out, HBe.out.setCell (Nat.le_refl _) _⟩
        · have hy := HV0.out i (by omega)
          rw [hy, Nat.add_zero] at HCD HCS
          clear hy hd2
          generalize carry v u i = C at *
          generalize dig v i = x at *
          go_wp2_with fail
          go_roundg (gk - 1)
          case measure => omega
          case rel => exact ⟨i + 1, by omega, by go_num, by rw [HCS.out]; go_num, add_row _ (by rw [HCD.out]; go_num) HRow.out, HBe.out.setCell (Nat.le_refl _) _⟩
      · obtain rfl : i = m := by omega
        have f2 := hRow.frozen i
        have ex := hRow.cell (i := i) (by omega)
        obtain ⟨hl1, hl2⟩ := carry_last HU.out HV.out
        have hRow2 := add_row (carry v u i : Nat) (by rw [hl1]) hRow
        have hR32 := (Row32.ofIs hRow2).congr (g := dig (v + u)) (fun j hj => by rw [if_pos hj])
        have C := Lib.hid (trim_any (some ⟨g, 0, none⟩) (i + 1) (i + 1) (v + u) _ hR32 hl2 (Nat.le_refl _) (by omega))
        clear hRow hBe hR32 hRow2 HRow hl1 hl2
        generalize carry v u i = K at *
        have hK : (K : Int) % 4294967296 = K := by omega
        go_wp2_with fail
        refine C.out.mono ?_
        rintro e w2 ⟨rfl, s2, rfl, hs2⟩
        go_wp2_with fail
        go_ret
        exact ⟨(HBe.out.setCell (Nat.le_refl _) _).mono (by omega), s2, rfl, by rw [Nat.add_comm u v]; exact hs2⟩
end Go.Proofs.YtjjfkidddjcdcaaDoor

namespace Go.Proofs.YtjjfkidddjcdcaaDoor
open Go.ChangeShapes Go.WideShapes Go.ChangeAt Go.RowKit

structure MulAt (u v m n i j c : Nat) (f : Nat → Nat) : Prop where
  small : c < 4294967296
  words : ∀ k, k < m + n → f k < 4294967296
  rest : ∀ k, i + j ≤ k → f k = dig (u % B i * v) k
  sum : wv f (m + n) + c * B (i + j) = u % B i * v + dig u i * (v % B j) * B i

theorem mul_lt (u v m n : Nat) (hu : u < B m) (hv : v < B n) : u * v < B (m + n) := by
  rw [B_add]
  rcases Nat.eq_zero_or_pos v with h | h
  · subst h
    rw [Nat.mul_zero]
    exact Nat.mul_pos (B_pos m) (B_pos n)
  · exact Nat.lt_of_lt_of_le ((Nat.mul_lt_mul_right h).2 hu) (Nat.mul_le_mul_left _ (by omega))

theorem MulAt.start {u v m n i : Nat} (hi : i < m) (hv : v < B n) : MulAt u v m n i 0 0 (dig (u % B i * v)) := by
  refine ⟨by omega, fun k _ => dig_lt _ _, fun k _ => rfl, ?_⟩
  have h := mul_lt (u % B i) v i n (Nat.mod_lt _ (B_pos i)) hv
  have hb := B_le (show i + n ≤ m + n by omega)
  rw [wv_dig _ _ (by omega), B_zero, Nat.mod_one, Nat.zero_mul, Nat.mul_zero, Nat.zero_mul]

theorem mul_fits {d y z c : Nat} (h1 : d < 4294967296) (h2 : y < 4294967296) (h3 : z < 4294967296) (h4 : c < 4294967296) : d * y ≤ 18446744065119617025 ∧ c + (d * y + z) < 18446744073709551616 := by
  have : d * y ≤ 4294967295 * 4294967295 := Nat.mul_le_mul (by omega) (by omega)
  omega

theorem MulAt.step {u v m n i j c x : Nat} {f : Nat → Nat} (h : MulAt u v m n i j c f) (hi : i < m) (hj : j < n) (hx : x = c + (dig u i * dig v j + f (i + j))) :
    MulAt u v m n i (j + 1) (x / 4294967296) (upd f (i + j) (x % 4294967296)) := by
  have hf := mul_fits (dig_lt u i) (dig_lt v j) (h.words (i + j) (by omega)) h.small
  refine ⟨by omega, upd_lt h.words (by omega), fun k hk => ?_, ?_⟩
  · unfold upd
    rw [if_neg (by omega)]
    exact h.rest k (by omega)
  · have h1 := wv_upd f (i + j) (x % 4294967296) (m + n) (by omega)
    have h2 := h.sum
    rw [mod_B v j, show i + (j + 1) = i + j + 1 from rfl, B_succ, B_add] at *
    have h3 := Nat.div_add_mod x 4294967296
    generalize x / 4294967296 = C at *
    generalize x % 4294967296 = X at *
    generalize wv (upd f (i + j) X) (m + n) = W at *
    generalize wv f (m + n) = V at *
    generalize f (i + j) = z at *
    generalize B i = P at *
    generalize B j = Q at *
    generalize v % Q = vq at *
    generalize u % P * v = R at *
    generalize dig u i = d at *
    generalize dig v j = y at *
    subst hx
    have h4 : (4294967296 * C + X) * (P * Q) = (c + (d * y + z)) * (P * Q) := by rw [h3]
    grind

theorem MulAt.last {u v m n i c : Nat} {f : Nat → Nat} (h : MulAt u v m n i n c f) (hi : i < m) (hv : v < B n) :
    ∀ k, k < m + n → upd f (i + n) c k = dig (u % B (i + 1) * v) k := by
  have h0 := mul_lt (u % B i) v i n (Nat.mod_lt _ (B_pos i)) hv
  have h1 := wv_upd f (i + n) c (m + n) (by omega)
  have h2 := h.sum
  have h3 := h.rest (i + n) (Nat.le_refl _)
  rw [dig_end h0] at h3
  rw [h3, Nat.zero_mul, Nat.add_zero, h2, Nat.mod_eq_of_lt hv] at h1
  have h4 : u % B (i + 1) * v = wv (upd f (i + n) c) (m + n) := by
    rw [h1, mod_B, Nat.add_mul, Nat.mul_right_comm]
  intro k hk
  rw [h4, dig_wv _ _ (upd_lt h.words h.small) k hk]

theorem mul_cast (C d y z : Nat) : ((C : Int) + ((d : Int) * y + z)) / 4294967296 = ((C + (d * y + z)) / 4294967296 : Nat) ∧ ((C : Int) + ((d : Int) * y + z)) % 4294967296 = ((C + (d * y + z)) % 4294967296 : Nat) := by
  have e : (C : Int) + ((d : Int) * y + z) = ((C + (d * y + z) : Nat) : Int) := by push_cast; rfl
  rw [e]
  generalize C + (d * y + z) = t
  omega

def MulIn (u v m n i g b : Nat) (w : World) (gk : Nat) (v7 v8 : Value) (wr : World) : Prop :=
  ∃ (j c : Nat) (f : Nat → Nat), gk + j = n ∧ v8 = .int .i64 j ∧ v7 = .int .u64 c ∧ MulAt u v m n i j c f ∧ wr.rowIs g 138 (m + n) (fun j => .int .u32 (f j : Nat)) ∧ Below b w wr
def MulOut (u v m n g b : Nat) (w : World) (gk : Nat) (v6 : Value) (wr : World) : Prop :=
  ∃ i : Nat, gk + i = m ∧ v6 = .int .i64 i ∧ wr.rowIs g 138 (m + n) (fun j => .int .u32 (dig (u % B i * v) j : Nat)) ∧ Below b w wr

theorem upd_row {w : World} {g L : Nat} {f : Nat → Nat} (i x : Nat) (X : Int) (hx : X = x) (h : w.rowIs g 138 L (fun j => .int .u32 (f j : Nat))) : (w.setCell ⟨g, i, none⟩ (.int .u32 X)).rowIs g 138 L (fun j => .int .u32 (upd f i x j : Nat)) :=
  (h.set i _).congr (fun j _ => by
    unfold upd
    by_cases e : j = i
    · rw [if_pos e, if_pos e, hx]
    · rw [if_neg e, if_neg e])

set_option maxRecDepth 100000 in
set_option maxHeartbeats 2000000 in
theorem mul_any (A A2 : Option Addr) (c c2 u v : Nat) (w : World) (hR : Row32 w A (wc u) (dig u)) (hR2 : Row32 w A2 (wc v) (dig v)) (hu : wc u ≤ 100000) (hv : wc v ≤ 100000) :
    Calls Tryd.prog 125 #[.slice A (wc u) c, .slice A2 (wc v) c2] w fun e w' => Below w.heap.size w w' ∧ ∃ s, e = .returned s ∧ Num w' s (u * v) := by
  by_cases h0 : u = 0
  · subst h0
    rw [Nat.zero_mul, wc_zero]
    clear hR hR2
    generalize wc v = n at *
    go_enter Tryd.func125, Tryd.ntmps125
    go_wp2_with fail
    all_goals (go_ret; exact ⟨Below.refl _ _, _, rfl, Num.nil w⟩)
  by_cases h1 : v = 0
  · subst h1
    rw [Nat.mul_zero, wc_zero]
    clear hR hR2
    generalize wc u = n at *
    go_enter Tryd.func125, Tryd.ntmps125
    go_wp2_with fail
    all_goals (go_ret; exact ⟨Below.refl _ _, _, rfl, Num.nil w⟩)
  have hm0 := wc_pos (show 0 < u by omega)
  have hn0 := wc_pos (show 0 < v by omega)
  have HU := Lib.hid (lt_wc u)
  have HV := Lib.hid (lt_wc v)
  obtain ⟨b, off, rfl, hb, hcell⟩ := hR hm0
  obtain ⟨b2, off2, rfl, hb2, hcell2⟩ := hR2 hn0
  have HC := Lib.hid hcell
  have HC2 := Lib.hid hcell2
  clear hcell hcell2 hR hR2 h0 h1
  generalize wc u = m at *
  generalize wc v = n at *
  have hmk : ∀ w : World, (Instr.makeSlice 99 (.int .i64 ((m : Int) + n)) (.int .i64 ((m : Int) + n))).run Tryd.prog w = .ok (.slice (some ⟨w.heap.size, 0, none⟩) (m + n) (m + n)) (w.alloc (.cells (madeCells #[.int .u32 0] (m + n)) 138)) := fun w => make_words w (m + n) (by omega)
  go_enter Tryd.func125, Tryd.ntmps125
  go_wp2_with fail
  have hR0 : (w.alloc (.cells (madeCells #[.int .u32 0] (m + n)) 138)).rowIs w.heap.size 138 (m + n) (fun j => .int .u32 (dig (u % B 0 * v) j : Nat)) := by
    rw [B_zero, Nat.mod_one, Nat.zero_mul]
    exact made_zero w _
  have hS0 : MulOut u v m n w.heap.size w.heap.size w m (.int .i64 0) (w.alloc (.cells (madeCells #[.int .u32 0] (m + n)) 138)) :=
    ⟨0, rfl, rfl, hR0, (Below.refl _ _).alloc (Nat.le_refl _) _⟩
  have HS := Lib.hid hS0
  clear hS0 hR0 hmk
  generalize w.alloc (.cells (madeCells #[.int .u32 0] (m + n)) 138) = W1 at *
  obtain ⟨g, hge⟩ : ∃ g, w.heap.size = g := ⟨_, rfl⟩
  rw [hge] at HS ⊢
  have hgw : w.heap.size ≤ g := by omega
  have hbg : b < g := by omega
  have hbg2 : b2 < g := by omega
  clear hge
  go_loopg [6] m (fun gk v6 wr => MulOut u v m n g g w gk v6 wr)
  case atStart => exact HS.out
  case round =>
    clear HS
    obtain ⟨i, hi, rfl, hRow, hBe⟩ := hrel
    obtain ⟨gk0, hgk0⟩ : ∃ a, a + 1 = gk ∨ gk = 0 := ⟨gk - 1, by omega⟩
    have HRow := Lib.hid hRow
    have HBe := Lib.hid hBe
    clear hRow hBe
    by_cases hlt : i < m
    · go_wp2_with fail
      go_loopg [7, 8] n (fun gk v7 v8 wr => MulIn u v m n i g g w gk v7 v8 wr)
      case atStart => exact ⟨0, 0, _, rfl, rfl, rfl, MulAt.start hlt HV.out, HRow.out, HBe.out⟩
      case round =>
        clear HRow HBe
        obtain ⟨j, C, f, hj, rfl, rfl, hM, hRow, hBe⟩ := hrel
        have HM := Lib.hid hM
        have HRow := Lib.hid hRow
        have HBe := Lib.hid hBe
        by_cases hlt2 : j < n
        · have c0 : wr.cell? ⟨b, off + i, none⟩ = some (.int .u32 (dig u i : Nat)) := (hBe.cell (p := ⟨b, off + i, none⟩) hbg).trans (HC.out i hlt)
          have c1 : wr.cell? ⟨b2, off2 + j, none⟩ = some (.int .u32 (dig v j : Nat)) := (hBe.cell (p := ⟨b2, off2 + j, none⟩) hbg2).trans (HC2.out j hlt2)
          have ce := hRow.cell (i := i + j) (by omega)
          have fe := hRow.frozen (i + j)
          have h1 := dig_lt u i
          have h2 := dig_lt v j
          have h3 := hM.words (i + j) (by omega)
          have h4 := hM.small
          obtain ⟨hf1, hf2⟩ := mul_fits h1 h2 h3 h4
          have HST := Lib.hid (fun x hx => hM.step (x := x) hlt hlt2 hx)
          clear hM hRow hBe HM
          generalize dig u i = d at *
          generalize dig v j = y at *
          generalize f (i + j) = z at *
          go_wp2_with fail
          go_quiet (fail)
          go_wp2_with fail
          go_roundg (gk - 1)
          case measure => omega
          case rel => exact ⟨j + 1, (C + (d * y + z)) / 4294967296, upd f (i + j) ((C + (d * y + z)) % 4294967296), by omega, by go_num, int_cast_eq (mul_cast C d y z).1, HST.out _ rfl, upd_row _ _ _ (mul_cast C d y z).2 HRow.out, (below_drewN HBe.out _).setCell (Nat.le_refl _) _⟩
        · obtain rfl : j = n := by omega
          have ce := hRow.cell (i := i + j) (by omega)
          have fe := hRow.frozen (i + j)
          have h4 := hM.small
          have HL := Lib.hid (hM.last hlt HV.out)
          clear hM hRow hBe HM
          generalize f (i + j) = z at *
          go_wp2_with fail
          go_roundg gk0
          case measure => omega
          case rel => exact ⟨i + 1, by omega, by go_num, (upd_row _ _ _ rfl HRow.out).congr (fun k hk => by rw [HL.out k hk]), HBe.out.setCell (Nat.le_refl _) _⟩
    · obtain rfl : i = m := by omega
      have hb := mul_lt u v i n HU.out HV.out
      have e : u % B i = u := Nat.mod_eq_of_lt HU.out
      rw [e] at HRow
      have C := Lib.hid (trim_any (some ⟨g, 0, none⟩) (i + n) (i + n) (u * v) wr (Row32.ofIs HRow.out) hb (Nat.le_refl _) (by omega))
      clear hb e HC HC2 HU HV HRow
      go_wp2_with fail
      refine C.out.mono ?_
      rintro e w2 ⟨rfl, s2, rfl, hs2⟩
      go_wp2_with fail
      go_ret
      exact ⟨HBe.out.mono (by omega), s2, rfl, hs2⟩
end Go.Proofs.YtjjfkidddjcdcaaDoor
