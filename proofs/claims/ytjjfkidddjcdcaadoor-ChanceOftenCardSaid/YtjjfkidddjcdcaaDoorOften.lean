/- Proved here: the contract of ChanceOften at this program: it is true. Conditions: the listed variable holds what is laid. -/
import Derived.Test.YtjjfkidddjcdcaaDoorOften1
import Derived.Deep.OwnRows
namespace Go.Proofs.YtjjfkidddjcdcaaDoor
open Go.ChangeShapes Go.WideShapes Go.ChangeAt Go.RowKit

set_option maxRecDepth 100000 in
theorem make_ints (w : World) (n : Nat) (hn : n ≤ 1000000) : (Instr.makeSlice 23 (.int .i64 (n : Int)) (.int .i64 (n : Int))).run Tryd.prog w = .ok (.slice (some ⟨w.heap.size, 0, none⟩) n n) (w.alloc (.cells (madeCells #[.int .i64 0] n) 3)) := by
  obtain ⟨i, hi, hz, hs, hb⟩ : ∃ i, Tryd.prog.info? 3 = some i ∧ i.zero = some (.int .i64 0) ∧ i.size = 1 ∧ i.bytes = 8 := ⟨_, rfl, rfl, rfl, rfl⟩
  have h := run_make (P := Tryd.prog) w 23 3 i (.int .i64 0) rfl hi hz .i64 .i64 n n (by omega) (by omega) (by rw [hb]; omega) (by omega)
  rw [hs] at h
  simpa [Value.cells] using h

def OftRel (p q : Int) (N g B : Nat) (w : World) (gk : Nat) (v7 v8 v47 : Value) (wr : World) : Prop :=
  ∃ k : Nat, gk + k = 1024 ∧ v7 = .int .i64 (cf p q 1 k) ∧ v8 = .int .i64 (cf p q 2 k) ∧ v47 = .int .i64 k ∧ wr.rowIs g 3 N (fun x => .int .i64 (cp N x k)) ∧ Below B w wr

theorem and_one (m : Nat) (hm : m < 1024) : bits .and .i64 (m : Int) 1 = ((m % 2 : Nat) : Int) := by
  show IntKind.i64.wrap ((BitVec.ofInt 64 (m : Int) &&& BitVec.ofInt 64 1).toNat : Int) = _
  have o1 : (BitVec.ofInt 64 (m : Int)).toNat = m := by rw [BitVec.ofInt_natCast, BitVec.toNat_ofNat]; exact Nat.mod_eq_of_lt (by omega)
  have o2 : (BitVec.ofInt 64 1).toNat = 1 := rfl
  rw [BitVec.toNat_and, o1, o2, Nat.and_one_is_mod, IntKind.wrap_i64]
  omega
theorem bit_at (k j : Nat) (hk : k < 1024) : bits .and .i64 ((k : Int) / 2 ^ j) 1 = rowOf k j := by
  have e : (k : Int) / 2 ^ j = ((k / 2 ^ j : Nat) : Int) := by rw [pow_cast, Int.natCast_ediv]
  rw [e, and_one _ (Nat.lt_of_le_of_lt (Nat.div_le_self _ _) hk)]
  rfl

theorem Row.ofIs {w : World} {b n : Nat} {f : Nat → Int} (h : w.rowIs b 3 n (fun i => .int .i64 (f i))) : Row w (some ⟨b, 0, none⟩) n f := fun _ =>
  ⟨b, 0, rfl, h.lt, fun j hj => by rw [Nat.zero_add]; exact h.cell hj⟩

theorem cf_s (p q : Int) (z k : Nat) : cf p q z (k + 1) = cf p q z k + if fr p q k = z then 1 else 0 := rfl
theorem cf_le (p q : Int) (z k : Nat) : cf p q z k ≤ k := sumTo_le (fun k => by by_cases h : fr p q k = z <;> simp [h]) k
theorem cp_s (N x k : Nat) : cp N x (k + 1) = cp N x k + if pr N k = some x then 1 else 0 := rfl
theorem cp_le (N x k : Nat) : cp N x k ≤ k := sumTo_le (fun k => by by_cases h : pr N k = some x <;> simp [h]) k
theorem cf_yes {p q : Int} {z k : Nat} (h : fr p q k = z) : Value.int .i64 ((cf p q z k : Int) + 1) = .int .i64 (cf p q z (k + 1) : Nat) := by rw [cf_s, if_pos h]; rfl
theorem cf_no {p q : Int} {z y k : Nat} (h : fr p q k = y) (hne : y ≠ z) : Value.int .i64 (cf p q z k : Nat) = .int .i64 (cf p q z (k + 1) : Nat) := by rw [cf_s, if_neg (by rw [h]; exact hne)]; rfl

theorem cp_none {w : World} {g N k : Nat} (hp : pr N k = none) (h : w.rowIs g 3 N (fun x => .int .i64 (cp N x k : Nat))) : w.rowIs g 3 N (fun x => .int .i64 (cp N x (k + 1) : Nat)) :=
  h.congr (fun i _ => by rw [cp_s, hp]; rfl)
theorem cp_some {w : World} {g N k v : Nat} (hp : pr N k = some v) (h : w.rowIs g 3 N (fun x => .int .i64 (cp N x k : Nat))) : (w.setCell ⟨g, v, none⟩ (.int .i64 ((cp N v k : Int) + 1))).rowIs g 3 N (fun x => .int .i64 (cp N x (k + 1) : Nat)) :=
  (h.set v _).congr (fun i _ => by
    rw [cp_s, hp]
    by_cases e : i = v
    · subst e; simp
    · rw [if_neg e, if_neg (by intro q; injection q with q; exact e q.symm)]; rfl)

def BitRel (N g b k B : Nat) (w : World) (gk : Nat) (v53 : Value) (wr : World) : Prop :=
  ∃ j : Nat, gk + j = 10 ∧ v53 = .int .i64 j ∧ wr.rowIs b 3 10 (fun i => .int .i64 (if i < j then rowOf k i else 0)) ∧ wr.rowIs g 3 N (fun x => .int .i64 (cp N x k)) ∧ Below B w wr

set_option maxRecDepth 100000 in
set_option maxHeartbeats 4000000 in
theorem often_true (p q n : Int) (w : World) (hG : Glob w) :
    Calls Tryd.prog 3 #[.int .i64 p, .int .i64 q, .int .i64 n] w fun e w' => e = .returned (.bool true) ∧ Below w.heap.size w w' := by
  have HG := Lib.hid hG
  clear hG
  by_cases hbad : q < 1 ∨ 40 < q ∨ p < 0 ∨ q < p ∨ n < 1 ∨ 40 < n
  · have HB := Lib.hid hbad
    clear hbad
    go_enter Tryd.func3, Tryd.ntmps3
    go_wp2_with fail
    refine (flips_true _ HG.out).mono ?_
    rintro e w1 ⟨rfl, hb1⟩
    go_wp2_with fail
    all_goals first | (exfalso; have := HB.out; omega) | skip
    all_goals (go_ret; exact ⟨rfl, hb1⟩)
  · have h1 : 1 ≤ q := by omega
    have h2 : q ≤ 40 := by omega
    have h3 : 0 ≤ p := by omega
    have h4 : p ≤ q := by omega
    have h5 : 1 ≤ n := by omega
    have h6 : n ≤ 40 := by omega
    clear hbad
    obtain ⟨N, rfl⟩ : ∃ N : Nat, n = N := ⟨n.toNat, by omega⟩
    have hmk := fun w => make_ints w N (by omega)
    go_enter Tryd.func3, Tryd.ntmps3
    go_wp2_with fail
    refine (flips_true _ HG.out).mono ?_
    rintro e w1 ⟨rfl, hb1⟩
    go_wp2_with fail
    all_goals first | (exfalso; omega) | skip
    have hR0 : (w1.alloc (Obj.cells (madeCells #[.int .i64 0] N) 3)).rowIs w1.heap.size 3 N (fun _ => .int .i64 0) := World.rowIs_made w1 _ N 3
    have HS0 : OftRel p q N w1.heap.size w.heap.size w 1024 (.int .i64 0) (.int .i64 0) (.int .i64 0) (w1.alloc (Obj.cells (madeCells #[.int .i64 0] N) 3)) :=
      ⟨0, rfl, rfl, rfl, rfl, hR0, hb1.alloc hb1.size _⟩
    have hg : w.heap.size ≤ w1.heap.size := hb1.size
    have HS := Lib.hid HS0
    clear HS0 hR0 hb1
    generalize w1.heap.size = g at *
    generalize w1.alloc (Obj.cells (madeCells #[.int .i64 0] N) 3) = W1 at *
    go_loopg [7, 8, 47] 1024 (fun gk v7 v8 v47 wr => OftRel p q N g w.heap.size w gk v7 v8 v47 wr)
    case atStart => exact HS.out
    case round =>
      clear HS
      obtain ⟨k, hk, rfl, rfl, rfl, hRow, hBe⟩ := hrel
      by_cases hlt : k < 1024
      · have HR := Lib.hid hRow
        have HBe := Lib.hid hBe
        have HM10 : ∀ w : World, (Instr.makeSlice 23 (.int .i64 10) (.int .i64 10)).run Tryd.prog w = .ok (.slice (some ⟨w.heap.size, 0, none⟩) 10 10) (w.alloc (.cells (madeCells #[.int .i64 0] 10) 3)) := fun w => make_ints w 10 (by omega)
        clear hRow hBe
        go_wp2_with fail
        have hb : g < wr.heap.size := HR.out.lt
        have hgb : g ≠ wr.heap.size := by omega
        have hR2 : (wr.alloc (Obj.cells (madeCells #[.int .i64 0] 10) 3)).rowIs wr.heap.size 3 10 (fun i => .int .i64 (if i < 0 then rowOf k i else 0)) := (World.rowIs_made wr _ 10 3).congr (fun i _ => by rw [if_neg (by omega)])
        have HI0 : BitRel N g wr.heap.size k w.heap.size w 10 (.int .i64 0) (wr.alloc (Obj.cells (madeCells #[.int .i64 0] 10) 3)) :=
          ⟨0, rfl, rfl, hR2, HR.out.alloc _, HBe.out.alloc (by omega) _⟩
        have HI := Lib.hid HI0
        have hwb : w.heap.size ≤ wr.heap.size := by omega
        clear HI0 hR2 hb HR HBe HM10
        generalize wr.alloc (Obj.cells (madeCells #[.int .i64 0] 10) 3) = W2 at *
        generalize wr.heap.size = b at *
        go_loopg [53] 10 (fun gk v53 wr => BitRel N g b k w.heap.size w gk v53 wr)
        case atStart => exact HI.out
        case round =>
          clear HI
          obtain ⟨j, hj, rfl, hRb, hRg, hBe⟩ := hrel
          by_cases hlt2 : j < 10
          · have hc := hRb.cell hlt2
            have hf := hRb.frozen j
            rw [if_neg (by omega)] at hc
            have HRb := Lib.hid hRb
            have HRg := Lib.hid hRg
            have HBe := Lib.hid hBe
            clear hRb hRg hBe
            go_wp2_with fail
            rw [bit_at k j hlt]
            clear hc hf
            go_roundg (gk - 1)
            case measure => omega
            case rel =>
              refine ⟨j + 1, by omega, by go_num, (HRb.out.set j _).congr (fun i hi => ?_), HRg.out.setOther hgb _, HBe.out.setCell (by omega) _⟩
              by_cases h : i = j
              · rw [if_pos h, if_pos (by omega), h]
              · rw [if_neg h]
                by_cases h2 : i < j
                · rw [if_pos h2, if_pos (by omega)]
                · rw [if_neg h2, if_neg (by omega)]
          · obtain rfl : j = 10 := by omega
            have hRow : Row wr (some ⟨b, 0, none⟩) 10 (rowOf k) := Row.ofIs (hRb.congr (fun i hi => by rw [if_pos hi]))
            have HRow := Lib.hid hRow
            have HRg := Lib.hid hRg
            have HBe := Lib.hid hBe
            have hgl : g < wr.heap.size := hRg.lt
            clear hRb hRg hBe hRow
            obtain ⟨x1, x2, x3, x4, hFT, hFlip⟩ := flip_row p q k 10 (some ⟨b, 0, none⟩) (by omega) (by omega) (by omega) (by omega)
            have HFlip := Lib.hid (hFlip wr HRow.out)
            have HFT := Lib.hid hFT
            clear hFlip hFT
            go_wp2_with fail
            refine HFlip.out.mono ?_
            rintro e w2 ⟨rfl, hb2⟩
            have hR2 := HRg.out.of_block (hb2.block g hgl)
            have hRow2 := HRow.out.below hb2
            have hBe2 := HBe.out.trans (hb2.mono (by omega))
            have hz2 : wr.heap.size ≤ w2.heap.size := hb2.size
            have HR3 := Lib.hid (hR2.alloc (Obj.cells #[.int .i64 x3, .int .i64 x4] 26))
            have HRow3 := Lib.hid (hRow2.below ((Below.refl _ _).alloc (Nat.le_refl _) (Obj.cells #[.int .i64 x3, .int .i64 x4] 26)))
            have HBe3 := Lib.hid (hBe2.alloc (by omega) (Obj.cells #[.int .i64 x3, .int .i64 x4] 26))
            have HT3 := Lib.hid (Whole.new w2 26 #[.int .i64 x3, .int .i64 x4] w2.heap.size rfl)
            have ht3 : w2.heap.size < (w2.alloc (Obj.cells #[.int .i64 x3, .int .i64 x4] 26)).heap.size := by simp
            have hgt : g < w2.heap.size := by omega
            have hwt : w.heap.size ≤ w2.heap.size := by omega
            have hBs : w.heap.size ≤ (w2.alloc (Obj.cells #[.int .i64 x3, .int .i64 x4] 26)).heap.size := by simp; omega
            obtain ⟨y1, y2, y3, y4, hPT, hPick⟩ := pick_row N k 10 (some ⟨b, 0, none⟩) (by omega) (by omega)
            have HPT := Lib.hid hPT
            have HPick := Lib.hid (hPick _ HRow3.out)
            have hft := HFT.out
            have hy := cf_le p q 1 k
            have ho := cf_le p q 2 k
            clear hR2 hRow2 hBe2 hPT hPick HFT HFlip hb2 HRg HRow HBe hgl hz2 HRow3 hgb hwb
            rcases hft with ⟨hf, rfl⟩ | ⟨hf, rfl, rfl⟩ | ⟨hf, rfl, rfl⟩
            · have hyy := cf_no (z := 1) hf (by decide)
              have hoo := cf_yes hf
              have Hyy := Lib.hid hyy
              have Hoo := Lib.hid hoo
              clear hyy hoo hf
              generalize cf p q 1 k = Y at *
              generalize cf p q 2 k = O at *
              go_wp2_with fail
              generalize w2.alloc (Obj.cells #[Value.int IntKind.i64 9, Value.int IntKind.i64 x4] 26) = W3 at *
              generalize w2.heap.size = t at *
              refine HPick.out.mono ?_
              rintro e w4 ⟨rfl, hb4⟩
              have hR4 := HR3.out.of_block (hb4.block g (by omega))
              have hT4 := HT3.out.below hb4 ht3
              have hBe4 := HBe3.out.trans (hb4.mono hBs)
              have c0 := hT4.cell 0
              have c1 := hT4.cell 1
              have f0 := hT4.frozen 0
              have f1 := hT4.frozen 1
              simp at c0 c1
              have hgt2 : g ≠ t := by omega
              have hgt3 : t ≠ g := by omega
              have hpt := HPT.out
              have HBe4 := Lib.hid hBe4
              have HR4 := Lib.hid hR4
              clear HR3 hT4 hBe4 HBe3 HPick HT3 hb4 HPT hBs ht3
              rcases hpt with ⟨hp, rfl⟩ | ⟨v, hv, hp, rfl, rfl⟩
              · have HP := Lib.hid hp
                clear hp hR4
                go_wp2_with fail
                go_roundg (1023 - k)
                case measure => omega
                case rel => exact ⟨k + 1, by omega, Hyy.out, Hoo.out, by go_num, cp_none HP.out ((HR4.out.setOther hgt2 _).setOther hgt2 _), (HBe4.out.setCell hwt _).setCell hwt _⟩
              · have hc := hR4.cell hv
                have hcf := hR4.frozen v
                have hcp := cp_le N v k
                have HP := Lib.hid hp
                clear hp hR4
                go_wp2_with fail
                go_roundg (1023 - k)
                case measure => omega
                case rel => exact ⟨k + 1, by omega, Hyy.out, Hoo.out, by go_num, cp_some HP.out ((HR4.out.setOther hgt2 _).setOther hgt2 _), ((HBe4.out.setCell hwt _).setCell hwt _).setCell hg _⟩
            · have hyy := cf_yes hf
              have hoo := cf_no (z := 2) hf (by decide)
              have Hyy := Lib.hid hyy
              have Hoo := Lib.hid hoo
              clear hyy hoo hf
              generalize cf p q 1 k = Y at *
              generalize cf p q 2 k = O at *
              go_wp2_with fail
              generalize w2.alloc (Obj.cells #[Value.int IntKind.i64 0, Value.int IntKind.i64 x4] 26) = W3 at *
              generalize w2.heap.size = t at *
              refine HPick.out.mono ?_
              rintro e w4 ⟨rfl, hb4⟩
              have hR4 := HR3.out.of_block (hb4.block g (by omega))
              have hT4 := HT3.out.below hb4 ht3
              have hBe4 := HBe3.out.trans (hb4.mono hBs)
              have c0 := hT4.cell 0
              have c1 := hT4.cell 1
              have f0 := hT4.frozen 0
              have f1 := hT4.frozen 1
              simp at c0 c1
              have hgt2 : g ≠ t := by omega
              have hgt3 : t ≠ g := by omega
              have hpt := HPT.out
              have HBe4 := Lib.hid hBe4
              have HR4 := Lib.hid hR4
              clear HR3 hT4 hBe4 HBe3 HPick HT3 hb4 HPT hBs ht3
              rcases hpt with ⟨hp, rfl⟩ | ⟨v, hv, hp, rfl, rfl⟩
              · have HP := Lib.hid hp
                clear hp hR4
                go_wp2_with fail
                go_roundg (1023 - k)
                case measure => omega
                case rel => exact ⟨k + 1, by omega, Hyy.out, Hoo.out, by go_num, cp_none HP.out ((HR4.out.setOther hgt2 _).setOther hgt2 _), (HBe4.out.setCell hwt _).setCell hwt _⟩
              · have hc := hR4.cell hv
                have hcf := hR4.frozen v
                have hcp := cp_le N v k
                have HP := Lib.hid hp
                clear hp hR4
                go_wp2_with fail
                go_roundg (1023 - k)
                case measure => omega
                case rel => exact ⟨k + 1, by omega, Hyy.out, Hoo.out, by go_num, cp_some HP.out ((HR4.out.setOther hgt2 _).setOther hgt2 _), ((HBe4.out.setCell hwt _).setCell hwt _).setCell hg _⟩
            · have hyy := cf_no (z := 1) hf (by decide)
              have hoo := cf_no (z := 2) hf (by decide)
              have Hyy := Lib.hid hyy
              have Hoo := Lib.hid hoo
              clear hyy hoo hf
              generalize cf p q 1 k = Y at *
              generalize cf p q 2 k = O at *
              go_wp2_with fail
              generalize w2.alloc (Obj.cells #[Value.int IntKind.i64 0, Value.int IntKind.i64 x4] 26) = W3 at *
              generalize w2.heap.size = t at *
              refine HPick.out.mono ?_
              rintro e w4 ⟨rfl, hb4⟩
              have hR4 := HR3.out.of_block (hb4.block g (by omega))
              have hT4 := HT3.out.below hb4 ht3
              have hBe4 := HBe3.out.trans (hb4.mono hBs)
              have c0 := hT4.cell 0
              have c1 := hT4.cell 1
              have f0 := hT4.frozen 0
              have f1 := hT4.frozen 1
              simp at c0 c1
              have hgt2 : g ≠ t := by omega
              have hgt3 : t ≠ g := by omega
              have hpt := HPT.out
              have HBe4 := Lib.hid hBe4
              have HR4 := Lib.hid hR4
              clear HR3 hT4 hBe4 HBe3 HPick HT3 hb4 HPT hBs ht3
              rcases hpt with ⟨hp, rfl⟩ | ⟨v, hv, hp, rfl, rfl⟩
              · have HP := Lib.hid hp
                clear hp hR4
                go_wp2_with fail
                go_roundg (1023 - k)
                case measure => omega
                case rel => exact ⟨k + 1, by omega, Hyy.out, Hoo.out, by go_num, cp_none HP.out ((HR4.out.setOther hgt2 _).setOther hgt2 _), (HBe4.out.setCell hwt _).setCell hwt _⟩
              · have hc := hR4.cell hv
                have hcf := hR4.frozen v
                have hcp := cp_le N v k
                have HP := Lib.hid hp
                clear hp hR4
                go_wp2_with fail
                go_roundg (1023 - k)
                case measure => omega
                case rel => exact ⟨k + 1, by omega, Hyy.out, Hoo.out, by go_num, cp_some HP.out ((HR4.out.setOther hgt2 _).setOther hgt2 _), ((HBe4.out.setCell hwt _).setCell hwt _).setCell hg _⟩
      · obtain rfl : k = 1024 := by omega
        obtain ⟨e1, e2, e3⟩ := cf_all p q h1 h3 h4
        have HC := Lib.hid (fun x hx => cp_all N x (by omega) (by omega) hx)
        have e0 : (0 : Int) ≤ (cf p q 1 1024 : Int) * q := Int.mul_nonneg (by omega) (by omega)
        have e4 : ((cf p q 1 1024 : Int) + cf p q 2 1024) * q ≤ 40960 + 40 := by
          rw [Int.add_mul]
          have : (cf p q 2 1024 : Int) * q ≤ 1 * q := Int.mul_le_mul_of_nonneg_right (by omega) (by omega)
          omega
        have e5 : (cf p q 1 1024 : Int) ≤ 1024 := by have := cf_le p q 1 1024; omega
        have e6 : (cf p q 2 1024 : Int) ≤ 1 := by omega
        clear e3
        generalize hY : cf p q 1 1024 = Y at *
        generalize hO : cf p q 2 1024 = O at *
        clear hY hO
        have HBe := Lib.hid hBe
        clear hBe
        have HR := Lib.hid hRow
        have c0 := hRow.cell (i := 0) (by omega)
        clear hRow
        go_wp2_with fail
        go_loopg [115] N (fun gk v115 wr2 => wr2 = wr ∧ ∃ i : Nat, gk + i = N ∧ v115 = .int .i64 i)
        case atStart => exact ⟨rfl, 0, rfl, rfl⟩
        case round =>
          obtain ⟨rfl, i, hi, rfl⟩ := hrel
          by_cases hlt : i < N
          · have c1 := HR.out.cell hlt
            obtain ⟨d1, d2⟩ := HC.out i hlt
            rw [d1] at c1 d2
            have d3 : ((cp N 0 1024 : Int) == 0) = false := by simp; omega
            go_wp2_with fail
            go_roundg (gk - 1)
            case measure => omega
            case rel => exact ⟨rfl, i + 1, by omega, by go_num⟩
          · obtain rfl : i = N := by omega
            go_wp2_with fail
            go_ret
            exact ⟨rfl, HBe.out⟩
end Go.Proofs.YtjjfkidddjcdcaaDoor
