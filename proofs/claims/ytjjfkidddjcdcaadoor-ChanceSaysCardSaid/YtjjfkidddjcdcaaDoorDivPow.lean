/- Proved here: the contract of package enclosurebig's div at this program, where the divisor is a power of two of more than one word. Conditions: as each theorem says. -/
import Derived.Test.YtjjfkidddjcdcaaDoorDiv
namespace Go.Proofs.YtjjfkidddjcdcaaDoor
open Go.ChangeShapes Go.WideShapes Go.ChangeAt Go.RowKit

theorem div_nums (x1 x0 : Nat) (h1 : x1 < 2147483648) (h0 : x0 < 4294967296) :
    (x1 * 4294967296 + x0) / 2147483648 / 2 = x1 ∧ (x1 * 4294967296 + x0) / 2147483648 < 4294967296 ∧ (x1 * 4294967296 + x0) < 9223372036854775808 ∧
      (x0 : Int) - (((x1 * 4294967296 + x0) / 2147483648 : Nat) : Int) * 2147483648 % 4294967296 = (((x1 * 4294967296 + x0) % 2147483648 : Nat) : Int) := by omega

/-- The inner loop's round: i words are done. -/
def DivIn (W N m K r x1 i : Nat) (gu gq : Nat) (Q : Nat → Nat) (w w2 : World) (v22 v23 v24 : Value) (wr : World) : Prop :=
  v24 = .int .i64 i ∧ v23 = .int .u64 0 ∧ v22 = .int .u64 ((if i ≤ N then 0 else x1 : Nat) : Nat) ∧
    wr.rowIs gu 138 (N + m + 2) (fun j => .int .u32 ((if i ≤ N then dig W j else upd (dig W) K r j : Nat) : Nat)) ∧ wr.rowIs gq 138 (m + 1) (fun j => .int .u32 (Q j : Nat)) ∧ Below gu w2 wr ∧ Below w.heap.size w wr

/-- A round's head: gk rounds are to come. -/
def DivRel (U N m gu gq : Nat) (w w2 : World) (gk : Nat) (v18 : Value) (wr : World) : Prop :=
  gk ≤ m + 1 ∧ v18 = .int .i64 ((gk : Int) - 1) ∧ wr.rowIs gu 138 (N + m + 2) (fun j => .int .u32 (dig (divW U N gk) j : Nat)) ∧
    wr.rowIs gq 138 (m + 1) (fun j => .int .u32 ((if gk ≤ j then dig (U / topV N) j else 0 : Nat) : Nat)) ∧ Below gu w2 wr ∧ Below w.heap.size w wr

set_option maxRecDepth 100000 in
set_option maxHeartbeats 1000000 in
theorem div_twos (A A2 : Option Addr) (c c2 u k : Nat) (w : World) (hR : Row32 w A (wc u) (dig u)) (hR2 : Row32 w A2 (wc (2 ^ k)) (dig (2 ^ k))) (hu : 2 < wc u) (hu2 : wc u ≤ 50000) (hk : 32 ≤ k) (hle : 2 ^ k ≤ u) :
    Calls Tryd.prog 117 #[.slice A (wc u) c, .slice A2 (wc (2 ^ k)) c2] w (DivOut w u (2 ^ k)) := by
  obtain ⟨N, hN⟩ : ∃ N, k / 32 = N := ⟨_, rfl⟩
  obtain ⟨s, hs⟩ : ∃ s, 31 - k % 32 = s := ⟨_, rfl⟩
  have hsi : 32 - (k : Int) % 32 - 1 = s := by omega
  have hs31 : s ≤ 31 := by omega
  obtain ⟨d1, d2⟩ := div_shift u k
  have hsh := shift_topV k
  have hsl := shifted_lt u s (wc u) (lt_wc u) hs31
  rw [hN, hs] at d1 d2 hsh
  have hwk : wc (2 ^ k) = N + 1 := by rw [wc_pow, hN]
  have hNu : N + 1 ≤ wc u := by rw [← hwk]; exact wc_mono hle
  have hk2 : k ≤ 2000000 := by omega
  have hN1 : 1 ≤ N := by omega
  have C1 := Lib.hid (cmp_any A A2 c c2 u (2 ^ k) w hR hR2 (by omega) (by omega))
  have hc := cmp_ge hle
  generalize cmpN u (2 ^ k) = cm at *
  have C2 := Lib.hid (fun w' (hb : Below w.heap.size w w') => length_any A2 c2 (2 ^ k) w' (hR2.below hb) (by omega))
  have C3 := Lib.hid (fun w' (hb : Below w.heap.size w w') => left_any A2 c2 (2 ^ k) s w' (hR2.below hb) (by omega) (by omega))
  have C4 := Lib.hid (fun w' (hb : Below w.heap.size w w') => left_any A c u s w' (hR.below hb) (by omega) (by omega))
  rw [bl_pow] at C2
  rw [hsh] at C3
  rw [hwk] at C1 C2 C3 ⊢
  obtain ⟨U, hU⟩ : ∃ U, u * 2 ^ s = U := ⟨_, rfl⟩
  rw [hU] at C4 d1 d2 hsl
  have D1 := Lib.hid d1
  have D2 := Lib.hid d2
  unfold DivOut
  rw [← D1.out, ← D2.out]
  have HSL := Lib.hid hsl
  clear hR hR2 hle hsh hwk hU d1 d2 D1 D2 hsl hs hN
  obtain ⟨m, hm⟩ : ∃ m, wc u = N + m := ⟨wc u - N, by omega⟩
  rw [hm] at C1 C4 HSL hu hu2 hNu ⊢
  clear hm
  have HN := Lib.hid hN1
  go_enter Tryd.func117, Tryd.ntmps117
  go_wp2_with fail
  refine C1.out.mono ?_
  rintro e w1 ⟨hb1, rfl⟩
  go_wp2_with fail
  refine (C2.out w1 hb1).mono ?_
  rintro e w1 ⟨rfl, rfl⟩
  go_wp2_with fail
  refine (C3.out w1 hb1).mono ?_
  rintro e w2 ⟨hb2, _, rfl, AV, cV, rfl, hV⟩
  rw [wc_topV] at hV ⊢
  have hb12 := hb1.trans (hb2.mono hb1.size)
  have hmk : ∀ w : World, (Instr.makeSlice 99 (.int .i64 ((N : Int) + m + 2)) (.int .i64 ((N : Int) + m + 2))).run Tryd.prog w = .ok (.slice (some ⟨w.heap.size, 0, none⟩) (N + m + 2) (N + m + 2)) (w.alloc (.cells (madeCells #[.int .u32 0] (N + m + 2)) 138)) := fun w => make_words w (N + m + 2) (by omega)
  have hmk2 : ∀ w : World, (Instr.makeSlice 99 (.int .i64 ((m : Int) + 1)) (.int .i64 ((m : Int) + 1))).run Tryd.prog w = .ok (.slice (some ⟨w.heap.size, 0, none⟩) (m + 1) (m + 1)) (w.alloc (.cells (madeCells #[.int .u32 0] (m + 1)) 138)) := fun w => make_words w (m + 1) (by omega)
  have hm1 : (N : Int) + m + 2 - (N + 1) - 1 = m := by omega
  go_wp2_with fail
  have hR0 : (w2.alloc (.cells (madeCells #[.int .u32 0] (N + m + 2)) 138)).rowIs w2.heap.size 138 (N + m + 2) (fun i => .int .u32 (dig 0 i : Nat)) := made_zero w2 _
  have hbA : Below w2.heap.size w2 (w2.alloc (.cells (madeCells #[.int .u32 0] (N + m + 2)) 138)) := (Below.refl _ _).alloc (Nat.le_refl _) _
  have hbA2 : Below w.heap.size w (w2.alloc (.cells (madeCells #[.int .u32 0] (N + m + 2)) 138)) := hb12.alloc hb12.size _
  generalize w2.alloc (.cells (madeCells #[.int .u32 0] (N + m + 2)) 138) = W2 at *
  refine (C4.out W2 hbA2).mono ?_
  rintro e w4 ⟨hb4, _, rfl, AU, cU, rfl, hU⟩
  obtain ⟨gu, hgu⟩ : ∃ gu, w2.heap.size = gu := ⟨_, rfl⟩
  have hgl := hR0.lt
  rw [hgu] at hR0 hbA hgl ⊢
  have hR4 := hR0.of_block (hb4.block gu hgl)
  have hUB : U < B (N + m + 1) := Nat.lt_trans HSL.out (topV_lt _)
  have hwU := wc_le hUB
  obtain ⟨w5, hcopy, hR5, hb5⟩ := copy_words w4 gu (N + m + 2) (wc U) cU AU 3 (dig U) _ hR4 hU (by omega)
  have hR6 := hR5.congr (g := fun j => .int .u32 (dig U j : Nat)) (fun j _ => by
    by_cases e : j < wc U
    · rw [if_pos e]
    · rw [if_neg e, dig_end (Nat.lt_of_lt_of_le (lt_wc U) (B_le (by omega)))]; unfold dig; simp)
  have hb45 := hb5 gu W2 (Nat.le_refl _) (hb4.mono (Nat.le_of_lt hgl))
  have hb25 := hbA.trans hb45
  have hgw : w.heap.size ≤ gu := by rw [← hgu]; exact hb12.size
  have hbw5 := hb5 w.heap.size w hgw (hbA2.trans (hb4.mono hbA2.size))
  clear hR0 hR4 hR5 hU hb4 hb5 hbA hb45 hbA2 hwU hgl C1 C2 C3 C4 hmk
  go_wp2_with fail
  have hQ0 : (w5.alloc (.cells (madeCells #[.int .u32 0] (m + 1)) 138)).rowIs w5.heap.size 138 (m + 1) (fun i => .int .u32 (dig 0 i : Nat)) := made_zero w5 _
  have hR7 := hR6.alloc (.cells (madeCells #[.int .u32 0] (m + 1)) 138)
  have hb27 := hb25.alloc (Nat.le_of_lt hR6.lt) (.cells (madeCells #[.int .u32 0] (m + 1)) 138)
  have hbw7 := hbw5.alloc hbw5.size (.cells (madeCells #[.int .u32 0] (m + 1)) 138)
  obtain ⟨gq, hgq⟩ : ∃ gq, w5.heap.size = gq := ⟨_, rfl⟩
  have huq : gu < gq := by rw [← hgq]; exact hR6.lt
  rw [hgq] at hQ0 ⊢
  clear hmk2 hcopy hgq hb25 hbw5 hR6
  generalize w5.alloc (.cells (madeCells #[.int .u32 0] (m + 1)) 138) = W7 at *
  obtain ⟨bv, ov, rfl, hbv, hvc⟩ := hV (by omega)
  rw [hgu] at hbv
  have HVC : Hid (∀ j, j < N + 1 → ∀ w', Below gu w2 w' → w'.cell? ⟨bv, ov + j, none⟩ = some (.int .u32 (dig (topV N) j : Nat))) := fun j hj w' hb => (hb.cell (p := ⟨bv, ov + j, none⟩) hbv).trans (hvc j hj)
  have e1 := HVC.out N (by omega) W7 hb27
  have e0 := HVC.out (N - 1) (by omega) W7 hb27
  rw [dig_topV_top] at e1
  rw [dig_topV_low _ _ (by omega)] at e0
  clear hV hvc
  go_quiet (fail)
  go_wp2_with fail
  have hUm : divW U N (m + 1) = U := Nat.mod_eq_of_lt (Nat.lt_of_lt_of_le HSL.out (by rw [show N + (m + 1) = N + m + 1 from rfl, topV_succ]; omega))
  have hS0 : Hid (DivRel U N m gu gq w w2 (m + 1) (.int .i64 m) (W7.drewN nq)) :=
    ⟨Nat.le_refl _, by go_num, by rw [hUm]; exact hR7, hQ0.congr (fun j hj => by rw [if_neg (by omega)]; unfold dig; simp), below_drewN hb27 nq, below_drewN hbw7 nq⟩
  clear hR7 hQ0 hb27 hbw7 e1 e0 hUm hUB
  go_loopg [18] (m + 1) (fun gk v18 wr => DivRel U N m gu gq w w2 gk v18 wr)
  case atStart => exact hS0.out
  case round => as_aux_lemma =>
    clear hS0
    obtain ⟨hgk, rfl, hRu, hRq, hBu, hBw⟩ := hrel
    rcases gk with _ | j
    · as_aux_lemma =>
      have hq1 : U / topV N < B (m + 1) := by
        rw [Nat.div_lt_iff_lt_mul (topV_pos N), Nat.mul_comm, topV_add]
        exact Nat.lt_of_lt_of_le HSL.out (by rw [show N + (m + 1) = N + m + 1 from rfl, topV_succ]; omega)
      have hq2 : U % topV N < B (N + 1) := Nat.lt_trans (Nat.mod_lt _ (topV_pos N)) (topV_lt N)
      have hq3 := B_le (show N + 1 ≤ N + m + 2 by omega)
      have hq4 := wc_le hq2
      have D1 := Lib.hid (trim_any (some ⟨gq, 0, none⟩) (m + 1) (m + 1) (U / topV N) wr ((Row32.ofIs hRq).congr (fun j _ => by rw [if_pos (Nat.zero_le _)])) hq1 (Nat.le_refl _) (by omega))
      have D2 := Lib.hid (trim_any (some ⟨gu, 0, none⟩) (N + m + 2) (N + m + 2) (U % topV N) wr (Row32.ofIs hRu) (Nat.lt_of_lt_of_le hq2 hq3) (Nat.le_refl _) (by omega))
      have D3 := Lib.hid (fun A c h => right_any A c (U % topV N) s wr h (by omega) (by omega))
      clear hRu hRq hq1 hq2 hq3 hBu
      go_wp2_with fail
      refine D1.out.mono ?_
      rintro e w2 ⟨rfl, s1, rfl, hs1⟩
      go_wp2_with fail
      refine D2.out.mono ?_
      rintro e w3 ⟨rfl, _, rfl, A3, c3, rfl, hs2⟩
      go_wp2_with fail
      refine (D3.out A3 c3 hs2).mono ?_
      rintro e w4 ⟨hb4, s4, rfl, hs4⟩
      go_wp2_with fail
      go_ret2
      exact ⟨hBw.trans (hb4.mono hBw.size), s1, s4, rfl, hs1.below hb4, hs4⟩
    · have HBu := Lib.hid hBu
      have HBw := Lib.hid hBw
      have HRu := Lib.hid hRu
      have HRq := Lib.hid hRq
      obtain ⟨s1, s2⟩ := divW_step U N j
      obtain ⟨t1, t2, t3⟩ := div_round (divW U N (j + 1)) (N + j) (divW_lt U N (j + 1))
      rw [s2] at t2
      rw [s1] at t3
      have cx1 := hRu.cell (i := j + (N + 1)) (by omega)
      have cx0 := hRu.cell (i := j + N) (by omega)
      have cxm := hRu.cell (i := j + N - 1) (by omega)
      rw [show dig (divW U N (j + 1)) (j + (N + 1)) = dig (divW U N (j + 1)) (N + j + 1) by rw [show j + (N + 1) = N + j + 1 by omega]] at cx1
      rw [show dig (divW U N (j + 1)) (j + N) = dig (divW U N (j + 1)) (N + j) by rw [Nat.add_comm j N]] at cx0
      rw [show j + N - 1 = j + (N + 1) - 2 by omega] at cxm
      rw [show dig (divW U N (j + 1)) (j + (N + 1) - 2) = dig (divW U N (j + 1)) (N + j - 1) by rw [show j + (N + 1) - 2 = N + j - 1 by omega]] at cxm
      have h0 := dig_lt (divW U N (j + 1)) (N + j)
      have hm0 := dig_lt (divW U N (j + 1)) (N + j - 1)
      obtain ⟨n1, n2, n3, n4⟩ := div_nums _ _ t1 h0
      generalize hx1 : dig (divW U N (j + 1)) (N + j + 1) = x1 at *
      generalize hx0 : dig (divW U N (j + 1)) (N + j) = x0 at *
      generalize dig (divW U N (j + 1)) (N + j - 1) = xm at *
      have X1 := Lib.hid hx1
      have X0 := Lib.hid hx0
      clear hx1 hx0
      have ho := or_word2 x0 x1 h0 (by omega)
      clear hRu hRq hBu hBw s1 s2
      have T2 := Lib.hid t2
      have T3 := Lib.hid t3
      have N1 := Lib.hid n1
      have N4 := Lib.hid n4
      clear t2 t3 n1 n4
      generalize x1 * 4294967296 + x0 = z at *
      obtain ⟨g, hg⟩ : ∃ g, z / 2147483648 = g := ⟨_, rfl⟩
      obtain ⟨r, hr⟩ : ∃ r, z % 2147483648 = r := ⟨_, rfl⟩
      have hgi : (z : Int) / 2147483648 = g := by omega
      have hri : (z : Int) % 2147483648 = r := by omega
      have hrb : r < 2147483648 := by omega
      rw [hg] at n2 T2 N1 N4
      rw [hr] at T3 N4
      have hor := or_word2 xm r hm0 (by omega)
      have HG := Lib.hid hg
      have HRr := Lib.hid hr
      clear hg hr
      go_wp2_with fail
      go_quiet (fail)
      go_wp2_with fail
      go_quiet (fail)
      go_wp2_with fail
      clear hsi hs31 hk hk2 hgi ho
      go_loop [20, 21] (fun v20 v21 => v20 = .int .u64 g ∧ v21 = .int .u64 r) (fun _ _ => 0)
      case atStart => exact ⟨rfl, int_cast_eq hri⟩
      case round => as_aux_lemma =>
        obtain ⟨rfl, rfl⟩ := hrel
        have hi1 : (2 : Int) ≤ (j : Int) + (N + 1) := by omega
        have hi2 : (j : Int) + (N + 1) - 2 < (N : Int) + m + 2 := by omega
        iterate 75 go_step
        go_wp2_with fail
        clear hor cxm hi1 hi2
        go_loopg [22, 23, 24] (N + 1) (fun gk v22 v23 v24 wr => ∃ i, gk + i = N + 1 ∧ DivIn (divW U N (j + 1)) N m (N + j) r x1 i gu gq (fun i => if j + 1 ≤ i then dig (U / topV N) i else 0) w w2 v22 v23 v24 wr)
        case atStart => exact ⟨0, rfl, rfl, rfl, rfl, HRu.out, HRq.out, below_drewN HBu.out _, below_drewN HBw.out _⟩
        case round => as_aux_lemma =>
          clear HRu HRq HBu HBw
          obtain ⟨i, hi, rfl, rfl, rfl, hRu, hRq, hBu, hBw⟩ := hrel
          have HRu := Lib.hid hRu
          have HRq := Lib.hid hRq
          have HBu := Lib.hid hBu
          have HBw := Lib.hid hBw
          by_cases hlt : i < N + 1
          · have cv := HVC.out i hlt wr hBu
            have ce := hRu.cell (i := i + j) (by omega)
            have fe := hRu.frozen (i + j)
            have hile : i ≤ N := by omega
            rw [if_pos hile] at ce ⊢
            by_cases hN2 : i < N
            · rw [dig_topV_low _ _ hN2] at cv
              have hx := dig_lt (divW U N (j + 1)) (i + j)
              have HX : Hid (dig (divW U N (j + 1)) (i + j) = dig (divW U N (j + 1)) (i + j)) := rfl
              generalize hxe : dig (divW U N (j + 1)) (i + j) = x at ce hx
              have HXe := Lib.hid hxe
              clear hRu hRq hBu hBw hxe HX
              go_wp2_with fail
              go_roundg (gk - 1)
              case measure => omega
              case rel =>
                refine ⟨i + 1, by omega, by go_num, int_cast_eq (by omega), int_cast_eq (by rw [if_pos (by omega)]; rfl), (HRu.out.set (i + j) _).congr (fun k hk => ?_), HRq.out.setOther (show gq ≠ gu by omega) _, HBu.out.setCell (Nat.le_refl _) _, HBw.out.setCell hgw _⟩
                by_cases e : k = i + j
                · rw [if_pos e, if_pos (by omega), e, HXe.out]
                · rw [if_neg e, if_pos hile, if_pos (by omega)]
            · obtain rfl : i = N := by omega
              rw [dig_topV_top] at cv
              rw [show dig (divW U i (j + 1)) (i + j) = x0 from X0.out] at ce
              clear hRu hRq hBu hBw
              have n4 := N4.out
              go_wp2_with fail
              have n1 := N1.out
              clear cv ce fe
              go_roundg (gk - 1)
              case measure => omega
              case rel =>
                refine ⟨i + 1, by omega, by go_num, int_cast_eq (by omega), int_cast_eq (by rw [if_neg (by omega)]; omega), (HRu.out.set (i + j) _).congr (fun k hk => ?_), HRq.out.setOther (show gq ≠ gu by omega) _, HBu.out.setCell (Nat.le_refl _) _, HBw.out.setCell hgw _⟩
                rw [if_neg (show ¬ i + 1 ≤ i by omega)]
                unfold upd
                by_cases e : k = i + j
                · rw [if_pos e, if_pos e]
                · rw [if_neg e, if_neg e, if_pos hile]
          · obtain rfl : i = N + 1 := by omega
            have ce := hRu.cell (i := j + (N + 1)) (by omega)
            have fe := hRu.frozen (j + (N + 1))
            have cq : wr.cell? ⟨gq, j, none⟩ = some (.int .u32 0) := (hRq.cell (i := j) (by omega)).trans (congrArg (fun (n : Nat) => some (Value.int .u32 (n : Int))) (if_neg (Nat.not_succ_le_self j)))
            have fq := hRq.frozen j
            rw [if_neg (show ¬ N + 1 ≤ N by omega)] at ce ⊢
            rw [show upd (dig (divW U N (j + 1))) (N + j) r (j + (N + 1)) = x1 from by unfold upd; rw [if_neg (by omega), show j + (N + 1) = N + j + 1 by omega]; exact X1.out] at ce
            clear hRu hRq hBu hBw hlt
            go_wp2_with fail
            clear ce fe cq fq
            go_roundg j
            case measure => omega
            case rel =>
              refine ⟨by omega, by go_num, ((HRu.out.set (j + (N + 1)) _).setOther (show gu ≠ gq by omega) _).congr (fun k hk => ?_), ((HRq.out.setOther (show gq ≠ gu by omega) _).set j _).congr (fun k hk => ?_), (HBu.out.setCell (Nat.le_refl _) _).setCell (Nat.le_of_lt huq) _, (HBw.out.setCell hgw _).setCell (show w.heap.size ≤ gq by omega) _⟩
              · rw [T3.out k, if_neg (show ¬ N + 1 ≤ N by omega)]
                unfold upd
                by_cases e1 : k = N + j
                · rw [if_neg (by omega), if_pos e1, if_pos e1]
                · rw [if_neg e1, if_neg e1]
                  by_cases e2 : k = N + j + 1
                  · rw [if_pos (by omega), if_pos e2]; rfl
                  · rw [if_neg (by omega), if_neg e2]
              · by_cases e1 : k = j
                · rw [if_pos e1, if_pos (by omega), e1, T2.out]
                · rw [if_neg e1]
                  by_cases e2 : j + 1 ≤ k
                  · rw [if_pos e2, if_pos (by omega)]
                  · rw [if_neg e2, if_neg (by omega)]

/-- Divisors that come up: one word, or a power of two. -/
def Fair (v : Nat) : Prop := 0 < v ∧ wc v ≤ 50000 ∧ (v < 4294967296 ∨ ∃ k, v = 2 ^ k)

theorem div_any (A A2 : Option Addr) (c c2 u v : Nat) (w : World) (hR : Row32 w A (wc u) (dig u)) (hR2 : Row32 w A2 (wc v) (dig v)) (hu : wc u ≤ 50000) (hv : Fair v) :
    Calls Tryd.prog 117 #[.slice A (wc u) c, .slice A2 (wc v) c2] w (DivOut w u v) := by
  obtain ⟨h0, hv, hk⟩ := hv
  rcases Nat.lt_or_ge u v with h1 | h1
  · exact div_less A A2 c c2 u v w hR hR2 (by omega) (by omega) h1
  · rcases Nat.lt_or_ge 2 (wc u) with h2 | h2
    · rcases Nat.lt_or_ge v 4294967296 with h3 | h3
      · exact div_one A A2 c c2 u v w hR hR2 h2 (by omega) h0 h3
      · rcases hk with hk | ⟨k, rfl⟩
        · omega
        · have hk : 32 ≤ k := by
            rcases Nat.lt_or_ge k 32 with h | h
            · have := (Nat.pow_lt_pow_iff_right (a := 2) (by omega)).2 h
              omega
            · exact h
          exact div_twos A A2 c c2 u k w hR hR2 h2 hu hk h1
    · exact div_short A A2 c c2 u v w hR hR2 h2 h0 h1
end Go.Proofs.YtjjfkidddjcdcaaDoor
