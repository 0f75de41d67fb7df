/- Proved here: the law WaveBack answers true at this program, and leaves all memory that was there as it was. Conditions: math's two rows of numbers are as the program's text lays them. -/
import Derived.Test.YtgeebjfbcjhifaaDoorWaves
import Derived.Test.YtgeebjfbcjhifaaDoorWaveUnit
import Derived.BigQuiet
import Derived.BigRegion
namespace Go.Proofs.YtgeebjfbcjhifaaDoor
open Go.ChangeShapes Go.WideShapes Go.ChangeAt Go.RowKit

theorem len_pow (n : Nat) (h : isLen n = true) : ∃ lg, lg ≤ 6 ∧ n = 2 ^ lg ∧ 1 ≤ n ∧ n ≤ 64 := by
  unfold isLen at h
  have h := of_decide_eq_true h
  rcases h with rfl | rfl | rfl | rfl | rfl | rfl | rfl
  · exact ⟨0, by omega, rfl, by omega, by omega⟩
  · exact ⟨1, by omega, rfl, by omega, by omega⟩
  · exact ⟨2, by omega, rfl, by omega, by omega⟩
  · exact ⟨3, by omega, rfl, by omega, by omega⟩
  · exact ⟨4, by omega, rfl, by omega, by omega⟩
  · exact ⟨5, by omega, rfl, by omega, by omega⟩
  · exact ⟨6, by omega, rfl, by omega, by omega⟩
/-- A row that Whole transforms: n numbers, the logarithm, the numbers. -/
def GoodRow (n : Nat) (f : Nat → Int) (lg : Nat) (l : Nat → Nat) : Prop := lg ≤ 6 ∧ n = 2 ^ lg ∧ 1 ≤ n ∧ n ≤ 64 ∧ isLen n = true ∧ (∀ j, j < n → f j = (l j : Int)) ∧ Low 998244353 l
/-- .. and one that it does not. -/
def BadRow (n : Nat) (f : Nat → Int) : Prop := isLen n = false ∨ (isLen n = true ∧ n ≤ 64 ∧ ∃ i, i < n ∧ ¬ inR (f i) ∧ ∀ j, j < i → inR (f j))
theorem first_bad (f : Nat → Int) : ∀ n, (∀ j, j < n → inR (f j)) ∨ ∃ i, i < n ∧ ¬ inR (f i) ∧ ∀ j, j < i → inR (f j)
  | 0 => Or.inl fun j hj => by omega
  | n + 1 => by
    rcases first_bad f n with h | ⟨i, hi, hb, hok⟩
    · by_cases hn : inR (f n)
      · refine Or.inl fun j hj => ?_
        by_cases e : j = n
        · subst e; exact hn
        · exact h j (by omega)
      · exact Or.inr ⟨n, by omega, hn, h⟩
    · exact Or.inr ⟨i, by omega, hb, hok⟩
theorem split_row (n : Nat) (f : Nat → Int) : (∃ lg l, GoodRow n f lg l) ∨ BadRow n f := by
  cases hl : isLen n with
  | false => exact Or.inr (Or.inl hl)
  | true =>
    obtain ⟨lg, h1, h2, h3, h4⟩ := len_pow n hl
    rcases first_bad f n with h | h
    · refine Or.inl ⟨lg, fun j => if j < n then (f j).toNat else 0, h1, h2, h3, h4, hl, fun j hj => ?_, fun j => ?_⟩
      · have := (h j hj).1
        show f j = ((if j < n then (f j).toNat else 0 : Nat) : Int)
        rw [if_pos hj]
        omega
      · show (if j < n then (f j).toNat else 0) < _
        by_cases hj : j < n
        · have := h j hj
          unfold inR at this
          rw [if_pos hj]
          omega
        · rw [if_neg hj]; omega
    · exact Or.inr (Or.inr ⟨hl, h4, h⟩)
def BadEnd (B : Nat) (w : World) (e : Ending) (w' : World) : Prop := ∃ code at_ : Int, ((code != 0) = true) ∧ e = .returned (.tuple #[.slice none 0 0, .agg #[.int .i64 code, .int .i64 at_]]) ∧ Below B w w'
def sumS (a b : Nat → Nat) (i : Nat) : Nat → Nat := fun j => if j < i then (a j + b j) % 998244353 else 0
theorem sumS_low (a b : Nat → Nat) (i : Nat) : Low 998244353 (sumS a b i) := fun j => by
  unfold sumS
  split <;> omega
theorem whole_bad (n c : Nat) (back : Bool) (A : Option Addr) (f : Nat → Int) (w : World) (hn : n ≤ 1000000) (hR : Row w A n f) (h : BadRow n f) :
    Calls Tryd.prog 5 #[.slice A n c, .bool back] w (BadEnd w.heap.size w) := by
  rcases h with h | ⟨hl, h64, i, hi, hb, hok⟩
  · exact (whole_shape n c back A w (by omega) (Lib.hid h)).mono fun e w' ⟨he, hw⟩ => ⟨7, 0, rfl, he, hw⟩
  · exact (whole_range n c i back A f w h64 (Lib.hid hl) hR hi hb hok).mono fun e w' ⟨he, hw⟩ => ⟨3, i, rfl, he, hw⟩
theorem whole_good (n c lg : Nat) (back : Bool) (A : Option Addr) (f : Nat → Int) (l : Nat → Nat) (w : World) (hR : Row w A n f) (h : GoodRow n f lg l) :
    Calls Tryd.prog 5 #[.slice A n c, .bool back] w fun e w' => e = .returned (.tuple #[.slice (some ⟨w.heap.size + 3, 0, none⟩) n n, .agg #[.int .i64 0, .int .i64 0]]) ∧ Below w.heap.size w w' ∧ Nums w' (w.heap.size + 3) n (modS 998244353 back lg l) := by
  obtain ⟨h1, h2, h3, h4, h5, h6, h7⟩ := h
  exact whole_any lg n c back A l w h1 (Lib.hid h2) h3 h4 (Lib.hid h5) (hR.congr h6) h7


set_option maxRecDepth 100000 in
set_option maxHeartbeats 8000000 in
theorem back_true (n m ca cb : Nat) (A B : Option Addr) (f g : Nat → Int) (w : World) (hn : n < 9223372036854775808) (hm : m < 9223372036854775808) (hA : Row w A n f) (hB : Row w B m g) (hS : Sincos w) :
    Calls Tryd.prog 3 #[.slice A n ca, .slice B m cb] w fun e w' => e = .returned (.bool true) ∧ Below w.heap.size w w' := by
  have HW := Lib.hid (waves_any w hS)
  have HA := Lib.hid hA
  have HB := Lib.hid hB
  have hnot : ∀ (x : Bool) (w : World), (Op.unary .not (.bool x)).run Tryd.prog w = .ok (.bool (!x)) w := fun _ _ => rfl
  clear hA hB hS
  by_cases h1 : 1000 < n
  · have hd1 : decide ((1000 : Int) < (n : Int)) = true := decide_eq_true (by omega)
    go_enter Tryd.func3, Tryd.ntmps3
    go_wp2_with (go_at_call 4; refine HW.out.mono ?_; rintro e w1 ⟨rfl, hb1⟩)
    go_ret
    exact ⟨rfl, hb1⟩
  have hd1 : decide ((1000 : Int) < (n : Int)) = false := decide_eq_false (by omega)
  by_cases h2 : 1000 < m
  · have hd2 : decide ((1000 : Int) < (m : Int)) = true := decide_eq_true (by omega)
    go_enter Tryd.func3, Tryd.ntmps3
    go_wp2_with (go_at_call 4; refine HW.out.mono ?_; rintro e w1 ⟨rfl, hb1⟩)
    go_ret
    exact ⟨rfl, hb1⟩
  have hd2 : decide ((1000 : Int) < (m : Int)) = false := decide_eq_false (by omega)
  go_enter Tryd.func3, Tryd.ntmps3
  go_wp2_with (go_at_call 4; refine HW.out.mono ?_; rintro e w1 ⟨rfl, hb1⟩)
  clear hd1 hd2
  have HB1 := Lib.hid hb1
  have HA1 := Lib.hid (HA.out.below hb1)
  clear hb1 HW
  rcases split_row n f with ⟨lg, l, hgood⟩ | hbad
  rotate_left
  · refine (whole_bad n ca false A f w1 (by omega) HA1.out hbad).mono ?_
    rintro e w2 ⟨code, at_, hc, rfl, hb2⟩
    have HB2 := Lib.hid (HB1.out.trans (hb2.mono HB1.out.size))
    have z0 : ((0 : Int) == 0) = true := rfl
    clear hb2 hbad
    go_wp2_with fail
    go_ret
    exact ⟨rfl, HB2.out.alloc HB2.out.size _⟩
  · have HC1 := Lib.hid (whole_good n ca lg false A f l w1 HA1.out hgood)
    have HGD := Lib.hid hgood
    have g3 := hgood.2.2.1
    have g4 := hgood.2.2.2.1
    clear hgood
    refine HC1.out.mono ?_
    rintro e w2 ⟨rfl, hb2, hn2⟩
    have HX2 := Lib.hid hn2
    have HB2 := Lib.hid (HB1.out.trans (hb2.mono HB1.out.size))
    clear HC1 hb2 hn2 HA1 HB1
    generalize w1.heap.size + 3 = E1 at *
    clear w1
    go_wp2_with fail
    have HX3 := Lib.hid (HX2.out.alloc (Obj.cells #[.int .i64 0, .int .i64 0] 26))
    have HB3 := Lib.hid (HB2.out.alloc HB2.out.size (Obj.cells #[.int .i64 0, .int .i64 0] 26))
    have HF3 : Hid (Whole (w2.alloc (Obj.cells #[.int .i64 0, .int .i64 0] 26)) w2.heap.size 26 #[.int .i64 0, .int .i64 0]) := Lib.hid (Whole.new _ _ _ _ rfl)
    have hE1 : E1 < w2.heap.size := HX2.out.lt
    have hz2 : w.heap.size ≤ w2.heap.size := HB2.out.size
    clear HX2 HB2
    generalize w2.alloc (Obj.cells #[.int .i64 0, .int .i64 0] 26) = w3 at *
    generalize w2.heap.size = G at *
    have HL1 := Lib.hid (Low.modS (show 0 < 998244353 by omega) false lg HGD.out.2.2.2.2.2.2)
    have HC3 := Lib.hid (whole_good n n lg true (some ⟨E1, 0, none⟩) _ (modS 998244353 false lg l) w3 HX3.out.row ⟨HGD.out.1, HGD.out.2.1, g3, g4, HGD.out.2.2.2.2.1, fun _ _ => rfl, HL1.out⟩)
    refine HC3.out.mono ?_
    rintro e w4 ⟨rfl, hb4, hn4⟩
    have HY4 : Hid (Nums w4 (w3.heap.size + 3) n l) := Lib.hid (hn4.congr fun j hj => back_forth lg HGD.out.1 l (fun j _ => HGD.out.2.2.2.2.2.2 j) j (by rw [← HGD.out.2.1]; exact hj))
    have HX4 := Lib.hid (HX3.out.below hb4 HX3.out.lt)
    have HB4 := Lib.hid (HB3.out.trans (hb4.mono HB3.out.size))
    have HF4 := Lib.hid (HF3.out.below hb4 HF3.out.lt)
    have hE2 : G < w3.heap.size := HF3.out.lt
    have c0 := HF4.out.cell 0
    have c1 := HF4.out.cell 1
    have f0 := HF4.out.frozen 0
    have f1 := HF4.out.frozen 1
    clear hb4 hn4 HC3 HX3 HB3 HF3
    have hE3 : w3.heap.size ≤ w3.heap.size + 3 := by omega
    generalize w3.heap.size + 3 = E2 at *
    go_wp2_with fail
    have n1 : E1 ≠ G := by omega
    have n2 : E2 ≠ G := by omega
    have HX5 : Hid (Nums ((w4.setCell ⟨G, 0, none⟩ (.int .i64 0)).setCell ⟨G, 1, none⟩ (.int .i64 0)) E1 n (modS 998244353 false lg l)) := Lib.hid ((HX4.out.far (p := ⟨G, 0, none⟩) n1 _).far (p := ⟨G, 1, none⟩) n1 _)
    have HY5 : Hid (Nums ((w4.setCell ⟨G, 0, none⟩ (.int .i64 0)).setCell ⟨G, 1, none⟩ (.int .i64 0)) E2 n l) := Lib.hid ((HY4.out.far (p := ⟨G, 0, none⟩) n2 _).far (p := ⟨G, 1, none⟩) n2 _)
    have HF5 : Hid (Whole ((w4.setCell ⟨G, 0, none⟩ (.int .i64 0)).setCell ⟨G, 1, none⟩ (.int .i64 0)) G 26 #[.int .i64 0, .int .i64 0]) := Lib.hid (by simpa using (HF4.out.set 0 (.int .i64 0)).set 1 (.int .i64 0))
    have HB5 : Hid (Below w.heap.size w ((w4.setCell ⟨G, 0, none⟩ (.int .i64 0)).setCell ⟨G, 1, none⟩ (.int .i64 0))) := Lib.hid ((HB4.out.setCell hz2 _).setCell hz2 _)
    clear HX4 HY4 HF4 HB4 c0 c1 f0 f1
    generalize (w4.setCell ⟨G, 0, none⟩ (.int .i64 0)).setCell ⟨G, 1, none⟩ (.int .i64 0) = w5 at *
    clear w4
    refine (lists_same n n ca (some ⟨E2, 0, none⟩) A f w5 (HY5.out.row.congr fun j hj => (HGD.out.2.2.2.2.2.1 j hj).symm) (HA.out.below HB5.out) (by omega)).mono ?_
    rintro e w6 ⟨rfl, hb6⟩
    have HX6 := Lib.hid (HX5.out.below hb6 HX5.out.lt)
    have HF6 := Lib.hid (HF5.out.below hb6 HF5.out.lt)
    have HB6 := Lib.hid (HB5.out.trans (hb6.mono HB5.out.size))
    clear hb6 HX5 HY5 HF5 HB5
    clear w5
    go_wp2_with fail
    have HBm := Lib.hid (HB.out.below HB6.out)
    rcases split_row m g with ⟨lg2, l2, hgood2⟩ | hbad2
    rotate_left
    · refine (whole_bad m cb false B g w6 (by omega) HBm.out hbad2).mono ?_
      rintro e w7 ⟨code, at_, hc, rfl, hb7⟩
      have HF7 := Lib.hid (HF6.out.below hb7 HF6.out.lt)
      have HB7 := Lib.hid (HB6.out.trans (hb7.mono HB6.out.size))
      have c0 := HF7.out.cell 0
      have c1 := HF7.out.cell 1
      have f0 := HF7.out.frozen 0
      have f1 := HF7.out.frozen 1
      clear hb7 hbad2
      go_wp2_with fail
      go_ret
      exact ⟨rfl, (HB7.out.setCell hz2 _).setCell hz2 _⟩
    · have HC7 := Lib.hid (whole_good m cb lg2 false B g l2 w6 HBm.out hgood2)
      have HGD2 := Lib.hid hgood2
      clear hgood2 HBm
      refine HC7.out.mono ?_
      rintro e w7 ⟨rfl, hb7, hn7⟩
      have HX7 := Lib.hid (HX6.out.below hb7 HX6.out.lt)
      have HZ7 := Lib.hid hn7
      have HF7 := Lib.hid (HF6.out.below hb7 HF6.out.lt)
      have HB7 := Lib.hid (HB6.out.trans (hb7.mono HB6.out.size))
      have hE4 : G < w6.heap.size := HF6.out.lt
      have hE5 : w6.heap.size ≤ w6.heap.size + 3 := by omega
      have c0 := HF7.out.cell 0
      have c1 := HF7.out.cell 1
      have f0 := HF7.out.frozen 0
      have f1 := HF7.out.frozen 1
      clear hb7 hn7 HC7 HX6 HF6 HB6
      generalize w6.heap.size + 3 = E3 at *
      by_cases hnm : n = m
      rotate_left
      · have hdm : ((n : Int) != (m : Int)) = true := by simp; omega
        go_wp2_with fail
        go_ret
        exact ⟨rfl, (HB7.out.setCell hz2 _).setCell hz2 _⟩
      · subst hnm
        have hdm : ((n : Int) != (n : Int)) = false := by simp
        have hmk : ∀ w : World, (Instr.makeSlice 22 (.int .i64 (n : Int)) (.int .i64 (n : Int))).run Tryd.prog w = .ok (.slice (some ⟨w.heap.size, 0, none⟩) n n) (w.alloc (.cells (madeCells #[.int .i64 0] n) 3)) := fun w => make_ints w n (by omega)
        obtain rfl : lg2 = lg := (Nat.pow_right_inj (show 1 < 2 by omega)).1 (HGD2.out.2.1.symm.trans HGD.out.2.1)
        have HLZ := Lib.hid (Low.modS (show 0 < 998244353 by omega) false lg2 HGD2.out.2.2.2.2.2.2)
        have HLS := Lib.hid (Low.modS (show 0 < 998244353 by omega) false lg2 (sumS_low l l2 n))
        have HSF : Hid (∀ j, j < n → modS 998244353 false lg2 (sumS l l2 n) j = (modS 998244353 false lg2 l j + modS 998244353 false lg2 l2 j) % 998244353) := Lib.hid fun j _ => sum_forth 998244353 lg2 (by omega) false l l2 (sumS l l2 n) (fun j hj => by unfold sumS; rw [if_pos (by rw [HGD.out.2.1]; exact hj)]) j (HLS.out j)
        go_wp2_with fail
        have n3 : E3 ≠ G := by omega
        have hsz8 : ((w7.setCell ⟨G, 0, none⟩ (.int .i64 0)).setCell ⟨G, 1, none⟩ (.int .i64 0)).heap.size = w7.heap.size := by simp [World.setCell]
        have HX8 : Hid (Nums (((w7.setCell ⟨G, 0, none⟩ (.int .i64 0)).setCell ⟨G, 1, none⟩ (.int .i64 0)).alloc (Obj.cells (madeCells #[.int .i64 0] n) 3)) E1 n (modS 998244353 false lg2 l)) := Lib.hid (((HX7.out.far (p := ⟨G, 0, none⟩) n1 _).far (p := ⟨G, 1, none⟩) n1 _).alloc _)
        have HZ8 : Hid (Nums (((w7.setCell ⟨G, 0, none⟩ (.int .i64 0)).setCell ⟨G, 1, none⟩ (.int .i64 0)).alloc (Obj.cells (madeCells #[.int .i64 0] n) 3)) E3 n (modS 998244353 false lg2 l2)) := Lib.hid (((HZ7.out.far (p := ⟨G, 0, none⟩) n3 _).far (p := ⟨G, 1, none⟩) n3 _).alloc _)
        have HF8 : Hid (Whole (((w7.setCell ⟨G, 0, none⟩ (.int .i64 0)).setCell ⟨G, 1, none⟩ (.int .i64 0)).alloc (Obj.cells (madeCells #[.int .i64 0] n) 3)) G 26 #[.int .i64 0, .int .i64 0]) := Lib.hid (Whole.alloc (by simpa using (HF7.out.set 0 (.int .i64 0)).set 1 (.int .i64 0)) _)
        have HB8 : Hid (Below w.heap.size w (((w7.setCell ⟨G, 0, none⟩ (.int .i64 0)).setCell ⟨G, 1, none⟩ (.int .i64 0)).alloc (Obj.cells (madeCells #[.int .i64 0] n) 3))) := Lib.hid (((HB7.out.setCell hz2 _).setCell hz2 _).alloc (by rw [hsz8]; exact HB7.out.size) _)
        have HN8 : Hid (Nums (((w7.setCell ⟨G, 0, none⟩ (.int .i64 0)).setCell ⟨G, 1, none⟩ (.int .i64 0)).alloc (Obj.cells (madeCells #[.int .i64 0] n) 3)) w7.heap.size n (fun _ => 0)) := Lib.hid (by have h := nums_made ((w7.setCell ⟨G, 0, none⟩ (.int .i64 0)).setCell ⟨G, 1, none⟩ (.int .i64 0)) n; rw [hsz8] at h; exact h)
        have hx7 := HX7.out.lt
        have hz7 := HZ7.out.lt
        have hg7 := HF7.out.lt
        have hb7 := HB7.out.size
        have HAR := Lib.hid (HA.out.below HB8.out)
        have HBR := Lib.hid (HB.out.below HB8.out)
        have HAp := Lib.hid (HA.out.apart hb7)
        have HBp := Lib.hid (HB.out.apart hb7)
        clear HX7 HZ7 HF7 HB7 c0 c1 f0 f1 hsz8 hmk
        generalize ((w7.setCell ⟨G, 0, none⟩ (.int .i64 0)).setCell ⟨G, 1, none⟩ (.int .i64 0)).alloc (Obj.cells (madeCells #[.int .i64 0] n) 3) = W8 at *
        generalize w7.heap.size = D at *
        clear w7
        go_loopg [68] n (fun gk v68 wr => ∃ i : Nat, gk + i = n ∧ v68 = .int .i64 (i : Nat) ∧ W8.grownBy wr (some D) ∧ Nums wr D n (sumS l l2 i))
        case atStart => exact ⟨0, by omega, rfl, grown_refl _ _, HN8.out.congr fun j _ => by unfold sumS; rw [if_neg (by omega)]⟩
        case round =>
          clear HN8
          obtain ⟨i, hi, rfl, hgr, hnu⟩ := hrel
          have HGR := Lib.hid hgr
          have HNU := Lib.hid hnu
          clear hgr hnu
          rcases gk with _ | gi
          · obtain rfl : i = n := by omega
            have HC9 := Lib.hid (whole_good i i lg2 false (some ⟨D, 0, none⟩) _ (sumS l l2 i) wr HNU.out.row ⟨HGD.out.1, HGD.out.2.1, g3, g4, HGD.out.2.2.2.2.1, fun _ _ => rfl, sumS_low l l2 i⟩)
            have HX9 := Lib.hid (HX8.out.grown HGR.out (by omega))
            have HZ9 := Lib.hid (HZ8.out.grown HGR.out (by omega))
            have HF9 := Lib.hid (HF8.out.grown HGR.out (fun e => by injection e with e; omega))
            have HB9 := Lib.hid (HB8.out.trans (below_of_grown HGR.out w.heap.size (by omega) HB8.out.size))
            clear HNU HX8 HZ8 HF8 HB8 HAR HBR HAp HBp HGR
            go_wp2_with fail
            refine HC9.out.mono ?_
            rintro e w10 ⟨rfl, hb10, hn10⟩
            have HX10 := Lib.hid (HX9.out.below hb10 HX9.out.lt)
            have HZ10 := Lib.hid (HZ9.out.below hb10 HZ9.out.lt)
            have HF10 := Lib.hid (HF9.out.below hb10 HF9.out.lt)
            have HB10 := Lib.hid (HB9.out.trans (hb10.mono HB9.out.size))
            have HS10 := Lib.hid hn10
            have hg10 := HF9.out.lt
            have hE6 : G < wr.heap.size + 3 := by omega
            have c0 := HF10.out.cell 0
            have c1 := HF10.out.cell 1
            have f0 := HF10.out.frozen 0
            have f1 := HF10.out.frozen 1
            clear hb10 hn10 HC9 HX9 HZ9 HF9 HB9
            generalize wr.heap.size + 3 = E4 at *
            go_wp2_with fail
            have n4 : E4 ≠ G := by omega
            have HX11 : Hid (Nums ((w10.setCell ⟨G, 0, none⟩ (.int .i64 0)).setCell ⟨G, 1, none⟩ (.int .i64 0)) E1 i (modS 998244353 false lg2 l)) := Lib.hid ((HX10.out.far (p := ⟨G, 0, none⟩) n1 _).far (p := ⟨G, 1, none⟩) n1 _)
            have HZ11 : Hid (Nums ((w10.setCell ⟨G, 0, none⟩ (.int .i64 0)).setCell ⟨G, 1, none⟩ (.int .i64 0)) E3 i (modS 998244353 false lg2 l2)) := Lib.hid ((HZ10.out.far (p := ⟨G, 0, none⟩) n3 _).far (p := ⟨G, 1, none⟩) n3 _)
            have HS11 : Hid (Nums ((w10.setCell ⟨G, 0, none⟩ (.int .i64 0)).setCell ⟨G, 1, none⟩ (.int .i64 0)) E4 i (modS 998244353 false lg2 (sumS l l2 i))) := Lib.hid ((HS10.out.far (p := ⟨G, 0, none⟩) n4 _).far (p := ⟨G, 1, none⟩) n4 _)
            have HB11 : Hid (Below w.heap.size w ((w10.setCell ⟨G, 0, none⟩ (.int .i64 0)).setCell ⟨G, 1, none⟩ (.int .i64 0))) := Lib.hid ((HB10.out.setCell hz2 _).setCell hz2 _)
            clear HX10 HZ10 HS10 HB10 HF10 c0 c1 f0 f1
            generalize (w10.setCell ⟨G, 0, none⟩ (.int .i64 0)).setCell ⟨G, 1, none⟩ (.int .i64 0) = w11 at *
            generalize modS 998244353 false lg2 (sumS l l2 i) = ss at *
            generalize modS 998244353 false lg2 l = xs at *
            generalize modS 998244353 false lg2 l2 = zs at *
            go_loopg [102] i (fun gk v102 wr => ∃ k : Nat, gk + k = i ∧ v102 = .int .i64 (k : Nat) ∧ ∃ q, wr = w11.drewN q)
            case atStart => exact ⟨0, by omega, rfl, 0, rfl⟩
            case round =>
              obtain ⟨k, hk, rfl, q, rfl⟩ := hrel
              rcases gk with _ | g8
              · obtain rfl : k = i := by omega
                go_wp2_with fail
                go_ret
                exact ⟨rfl, below_drewN HB11.out q⟩
              · have hki : k < i := by omega
                have y1 := HX11.out.cell k hki
                have y2 := HZ11.out.cell k hki
                have y3 := HS11.out.cell k hki
                have u1 := HL1.out k
                have u2 := HLZ.out k
                have hss := HSF.out k hki
                have heq : ((ss k : Int) != ((xs k : Int) + (zs k : Int)) % 998244353) = false := by
                  rw [hss]
                  simp
                clear hss
                generalize xs k = p1 at *
                generalize zs k = p2 at *
                generalize ss k = p3 at *
                go_wp2_with fail
                go_quiet (fail)
                go_wp2_with fail
                go_roundg g8
                case measure => omega
                case rel => exact ⟨k + 1, by omega, by go_num, _, rfl⟩
          · have hlt : i < n := by omega
            obtain ⟨b1, o1, rfl, hb1, hc1⟩ := (HAR.out.grown HGR.out HAp.out) (by omega)
            obtain ⟨b2, o2, rfl, hb2, hc2⟩ := (HBR.out.grown HGR.out HBp.out) (by omega)
            have x1 := hc1 i hlt
            have x2 := hc2 i hlt
            rw [HGD.out.2.2.2.2.2.1 i hlt] at x1
            rw [HGD2.out.2.2.2.2.2.1 i hlt] at x2
            have l1 := HGD.out.2.2.2.2.2.2 i
            have l2' := HGD2.out.2.2.2.2.2.2 i
            have cD := HNU.out.cell i hlt
            have fD := HNU.out.frozen i
            have FIN := Lib.hid (fun q : Nat => show W8.grownBy ((wr.setCell ⟨D, i, none⟩ (.int .i64 (((l i : Int) + (l2 i : Int)) % 998244353))).drewN q) (some D) ∧ Nums ((wr.setCell ⟨D, i, none⟩ (.int .i64 (((l i : Int) + (l2 i : Int)) % 998244353))).drewN q) D n (sumS l l2 (i + 1)) by
              refine ⟨grown_drewN (grown_set HGR.out _ _) q, ?_⟩
              rw [show ((l i : Int) + (l2 i : Int)) % 998244353 = (((l i + l2 i) % 998244353 : Nat) : Int) by omega]
              refine ((HNU.out.set i _).congr fun j _ => ?_).drewN q
              unfold upd sumS
              by_cases e : j = i
              · subst e; rw [if_pos rfl, if_pos (by omega)]
              · rw [if_neg e]
                by_cases e2 : j < i
                · rw [if_pos e2, if_pos (by omega)]
                · rw [if_neg e2, if_neg (by omega)])
            clear HNU hc1 hc2
            generalize sumS l l2 i i = d0 at *
            generalize l i = u at *
            generalize l2 i = v at *
            go_wp2_with fail
            go_region
            go_wp2_with fail
            go_roundg gi
            case measure => omega
            case rel => exact ⟨i + 1, by omega, by go_num, FIN.out 1⟩
end Go.Proofs.YtgeebjfbcjhifaaDoor
