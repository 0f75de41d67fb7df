/- Proved here: the contract of package wave's Convolve, of two rows that are not empty, at this program. Conditions: as the theorem says. -/
import Derived.Test.YtgeebjfbcjhifaaDoorConv1
import Derived.BigRegion
import Derived.StillTailTactics
namespace Go.Proofs.YtgeebjfbcjhifaaDoor
open Go.ChangeShapes Go.WideShapes Go.ChangeAt Go.RowKit

def inC (x : Int) : Prop := -1000000 ≤ x ∧ x ≤ 1000000
def prodS (X Y : Nat → Nat) (p i : Nat) : Nat → Nat := fun j => if j < i then X j * Y j % p else X j
/-- One of the two parts of a convolution. -/
def partS (p lg la lb : Nat) (f g : Nat → Int) (n : Nat) : Nat → Nat := modS p true lg (prodS (modS p false lg (lowS f p la)) (modS p false lg (lowS g p lb)) p n)
/-- The convolution. -/
def convS (lg la lb : Nat) (f g : Nat → Int) (n : Nat) : Nat → Int := fun i => joinS (partS 998244353 lg la lb f g n i) (partS 469762049 lg la lb f g n i)

theorem prodS_low (X Y : Nat → Nat) (p i : Nat) (hp : 0 < p) (h : Low p X) : Low p (prodS X Y p i) := fun j => by
  unfold prodS
  split
  · exact Nat.mod_lt _ hp
  · exact h j
theorem Nums.grown {w w' : World} {D N g : Nat} {s : Nat → Nat} (h : Nums w D N s) (hb : w.grownBy w' (some g)) (hD : D ≠ g) : Nums w' D N s := World.rowIs.of_block h (hb.block D h.lt (fun e => hD (by injection e)))
theorem Nums.alloc {w : World} {D N : Nat} {s : Nat → Nat} (h : Nums w D N s) (o : Obj) : Nums (w.alloc o) D N s := World.rowIs.alloc h o
def PartsRel (W4 : World) (gq n : Nat) (P0 P1 : Nat → Nat) (k : Nat) (wr : World) : Prop :=
  W4.grownBy wr (some gq) ∧ gq < W4.heap.size ∧ ∃ v0 v1, Whole wr gq 42 #[v0, v1] ∧ (0 < k → ∃ E, v0 = .slice (some ⟨E, 0, none⟩) n n ∧ E ≠ gq ∧ Nums wr E n P0) ∧ (1 < k → ∃ E, v1 = .slice (some ⟨E, 0, none⟩) n n ∧ E ≠ gq ∧ Nums wr E n P1)
theorem PartsRel.zero {W4 wr : World} {gq n : Nat} {P0 P1 : Nat → Nat} (h : PartsRel W4 gq n P0 P1 0 wr) {wq : World} (hb : Below wr.heap.size wr wq) {E : Nat} (hE : wr.heap.size ≤ E) (hN : Nums wq E n P0) :
    PartsRel W4 gq n P0 P1 1 (wq.setCell ⟨gq, 0, none⟩ (.slice (some ⟨E, 0, none⟩) n n)) := by
  obtain ⟨hg, hq, v0, v1, hw, _, _⟩ := h
  have hlt := hw.lt
  refine ⟨grown_set (grown_below hg hb) 0 _, hq, _, v1, by simpa using (hw.below hb hlt).set 0 (.slice (some ⟨E, 0, none⟩) n n), fun _ => ⟨E, rfl, by omega, hN.far (p := ⟨gq, 0, none⟩) (by show E ≠ gq; omega) _⟩, fun h => by omega⟩
theorem PartsRel.one {W4 wr : World} {gq n : Nat} {P0 P1 : Nat → Nat} (h : PartsRel W4 gq n P0 P1 1 wr) {wq : World} (hb : Below wr.heap.size wr wq) {E : Nat} (hE : wr.heap.size ≤ E) (hN : Nums wq E n P1) :
    PartsRel W4 gq n P0 P1 2 (wq.setCell ⟨gq, 1, none⟩ (.slice (some ⟨E, 0, none⟩) n n)) := by
  obtain ⟨hg, hq, v0, v1, hw, h0, _⟩ := h
  obtain ⟨E0, rfl, hne, hN0⟩ := h0 (by omega)
  have hlt := hw.lt
  refine ⟨grown_set (grown_below hg hb) 1 _, hq, _, _, by simpa using (hw.below hb hlt).set 1 (.slice (some ⟨E, 0, none⟩) n n), fun _ => ⟨E0, rfl, hne, (hN0.below hb hN0.lt).far (p := ⟨gq, 1, none⟩) hne _⟩, fun _ => ⟨E, rfl, by omega, hN.far (p := ⟨gq, 1, none⟩) (by show E ≠ gq; omega) _⟩⟩

set_option maxRecDepth 100000 in
set_option maxHeartbeats 8000000 in
theorem conv_any (lg n N la ca lb cb : Nat) (A B : Option Addr) (f g : Nat → Int) (w : World) (hl : lg ≤ 6) (hn : Hid (n = 2 ^ lg)) (hn2 : n ≤ 64) (hmin : Hid (∀ m, m < lg → 2 ^ m < la + lb)) (hle : la + lb ≤ n) (hN : N + 1 = la + lb) (ha : 1 ≤ la) (hb : 1 ≤ lb) (ha2 : la ≤ 32) (hb2 : lb ≤ 32)
    (hA : Row w A la f) (hB : Row w B lb g) (hf : ∀ j, j < la → inC (f j)) (hg : ∀ j, j < lb → inC (g j)) :
    Calls Tryd.prog 8 #[.slice A la ca, .slice B lb cb] w fun e w' => ∃ D, e = .returned (.tuple #[.slice (some ⟨D, 0, none⟩) N N, .agg #[.int .i64 0, .int .i64 0]]) ∧ w.heap.size ≤ D ∧ Below w.heap.size w w' ∧ Row w' (some ⟨D, 0, none⟩) N (convS lg la lb f g n) := by
  have HA := Lib.hid hA
  have HB := Lib.hid hB
  have HF := Lib.hid hf
  have HG := Lib.hid hg
  clear hA hB hf hg
  go_enter Tryd.func8, Tryd.ntmps8
  go_wp2_with fail
  have HB0 := Lib.hid (((Below.refl w.heap.size w).alloc (Nat.le_refl _) (Obj.cells #[.int .i64 0, .int .i64 0] 26)).alloc (by simp) (Obj.cells #[.slice A la ca, .slice B lb cb] 22))
  have HW0 : Hid (Whole ((w.alloc (Obj.cells #[.int .i64 0, .int .i64 0] 26)).alloc (Obj.cells #[.slice A la ca, .slice B lb cb] 22)) w.heap.size 26 #[.int .i64 0, .int .i64 0]) := Lib.hid ((Whole.new _ _ _ _ rfl).alloc _)
  have HL0 : Hid (Whole ((w.alloc (Obj.cells #[.int .i64 0, .int .i64 0] 26)).alloc (Obj.cells #[.slice A la ca, .slice B lb cb] 22)) (w.heap.size + 1) 22 #[.slice A la ca, .slice B lb cb]) := Lib.hid (Whole.new _ _ _ _ (by simp))
  have hs1 : w.heap.size + 2 = ((w.alloc (Obj.cells #[.int .i64 0, .int .i64 0] 26)).alloc (Obj.cells #[.slice A la ca, .slice B lb cb] 22)).heap.size := by simp
  have HS1 := Lib.hid hs1
  clear hs1
  generalize (w.alloc (Obj.cells #[.int .i64 0, .int .i64 0] 26)).alloc (Obj.cells #[.slice A la ca, .slice B lb cb] 22) = W1 at *
  have HA1 := Lib.hid (HA.out.below HB0.out)
  have HB1 := Lib.hid (HB.out.below HB0.out)
  go_loopg [24] 2 (fun gk v24 wr => ∃ k : Nat, gk + k = 2 ∧ v24 = .int .i64 (k : Nat) ∧ wr = W1)
  case atStart => exact ⟨0, by omega, rfl, rfl⟩
  case round =>
    obtain ⟨k, hk, rfl, rfl⟩ := hrel
    rcases gk with _ | g0
    · obtain rfl : k = 2 := by omega
      have z1 : ((la : Int) == 0) = false := by simp; omega
      have z2 : ((lb : Int) == 0) = false := by simp; omega
      go_wp2_with fail
      have HB2 := Lib.hid (HB0.out.alloc HB0.out.size (Obj.cells #[.int .i64 1] 3))
      have HW2 := Lib.hid (HW0.out.alloc (Obj.cells #[.int .i64 1] 3))
      have HN2 : Hid (Whole (wr.alloc (Obj.cells #[.int .i64 1] 3)) wr.heap.size 3 #[.int .i64 ((2 ^ 0 : Nat) : Int)]) := Lib.hid (Whole.new _ _ _ _ rfl)
      have hgn : w.heap.size < wr.heap.size := by have := HS1.out; omega
      clear HB0 HW0 HL0 HA1 HB1 HS1
      generalize wr.alloc (Obj.cells #[.int .i64 1] 3) = W2 at *
      generalize wr.heap.size = gn at *
      go_loopg [66] lg (fun gk _ wr => ∃ m : Nat, gk + m = lg ∧ Whole wr gn 3 #[.int .i64 ((2 ^ m : Nat) : Int)] ∧ W2.grownBy wr (some gn))
      case atStart => exact ⟨0, by omega, HN2.out, grown_refl _ _⟩
      case round =>
        clear HN2
        obtain ⟨m, hm, hwn, hgr⟩ := hrel
        have HWN := Lib.hid hwn
        have HGR := Lib.hid hgr
        clear hwn hgr
        have cn := HWN.out.cell 0
        have fn := HWN.out.frozen 0
        rcases gk with _ | g1
        · obtain rfl : m = lg := by omega
          have hpw : ((2 ^ m : Nat) : Int) = (n : Int) := by rw [← hn.out]
          rw [hpw] at cn HWN
          clear hpw hmin
          have hnl : ¬ (n : Int) < (la : Int) + (lb : Int) := by omega
          have hmf : ∀ (fn : Fn) (first cap : Array Value) (w : World), (Instr.makeFunc fn first cap).run Tryd.prog w = .ok (.func fn first cap) w := fun _ _ _ _ => rfl
          go_wp2_with fail
          have hnw := HWN.out.lt
          have HB4 : Hid (Below w.heap.size w (wr.alloc (Obj.cells #[.slice none 0 0, .slice none 0 0] 42))) := Lib.hid ((below_of_grown (grown_trans (grown_below (grown_refl w (some gn)) HB2.out) HGR.out) _ (by omega) (Nat.le_refl _)).alloc (by have := HB2.out.size; have := HGR.out.size; omega) _)
          have HW4 := Lib.hid ((HW2.out.grown HGR.out (fun e => by injection e with e; omega)).alloc (Obj.cells #[.slice none 0 0, .slice none 0 0] 42))
          have HN4 := Lib.hid (HWN.out.alloc (Obj.cells #[.slice none 0 0, .slice none 0 0] 42))
          have HP4 : Hid (PartsRel (wr.alloc (Obj.cells #[.slice none 0 0, .slice none 0 0] 42)) wr.heap.size n (partS 998244353 m la lb f g n) (partS 469762049 m la lb f g n) 0 (wr.alloc (Obj.cells #[.slice none 0 0, .slice none 0 0] 42))) := Lib.hid ⟨grown_refl _ _, by simp, _, _, Whole.new _ _ _ _ rfl, fun h => by omega, fun h => by omega⟩
          have hgq : gn < wr.heap.size := hnw
          have hgq2 : wr.heap.size < (wr.alloc (Obj.cells #[.slice none 0 0, .slice none 0 0] 42)).heap.size := by simp
          have hgw : w.heap.size < wr.heap.size := by omega
          clear cn fn HWN HGR HB2 HW2
          generalize wr.alloc (Obj.cells #[.slice none 0 0, .slice none 0 0] 42) = W4 at *
          generalize wr.heap.size = gq at *
          go_loopg [68] 2 (fun gk v68 wr => ∃ k : Nat, gk + k = 2 ∧ v68 = .int .i64 (k : Nat) ∧ PartsRel W4 gq n (partS 998244353 m la lb f g n) (partS 469762049 m la lb f g n) k wr)
          case atStart => exact ⟨0, by omega, rfl, HP4.out⟩
          case round =>
            clear HP4
            obtain ⟨k, hk, rfl, hrel⟩ := hrel
            have HPR := Lib.hid hrel
            have HG4 := Lib.hid hrel.1
            clear hrel
            have HBE : Hid (Below w.heap.size w wr) := Lib.hid (HB4.out.trans (below_of_grown HG4.out _ (by omega) (by have := HB4.out.size; omega)))
            have HWE := Lib.hid (HW4.out.grown HG4.out (fun e => by injection e with e; omega))
            have HNE := Lib.hid (HN4.out.grown HG4.out (fun e => by injection e with e; omega))
            have hsz := HG4.out.size
            rcases gk with _ | g4
            · obtain rfl : k = 2 := by omega
              obtain ⟨_, _, v0, v1, hw, h0, h1⟩ := HPR.out
              obtain ⟨E0, rfl, hE0, hN0⟩ := h0 (by omega)
              obtain ⟨E1, rfl, hE1, hN1⟩ := h1 (by omega)
              have HNN : Hid (((la : Int) + (lb : Int) - 1) = (N : Int)) := Lib.hid (by omega)
              have hmk : ∀ w : World, (Instr.makeSlice 22 (.int .i64 ((la : Int) + (lb : Int) - 1)) (.int .i64 ((la : Int) + (lb : Int) - 1))).run Tryd.prog w = .ok (.slice (some ⟨w.heap.size, 0, none⟩) N N) (w.alloc (.cells (madeCells #[.int .i64 0] N) 3)) := fun w => by rw [HNN.out]; exact make_ints w N (by omega)
              have HL0 := Lib.hid (Low.modS (show 0 < 998244353 by omega) true m (prodS_low _ (modS 998244353 false m (lowS g 998244353 lb)) 998244353 n (by omega) (Low.modS (show 0 < 998244353 by omega) false m (lowS_low f 998244353 la (by omega)))))
              have HL1 := Lib.hid (Low.modS (show 0 < 469762049 by omega) true m (prodS_low _ (modS 469762049 false m (lowS g 469762049 lb)) 469762049 n (by omega) (Low.modS (show 0 < 469762049 by omega) false m (lowS_low f 469762049 la (by omega)))))
              have HL0' : Hid (Low 998244353 (partS 998244353 m la lb f g n)) := Lib.hid HL0.out
              have HL1' : Hid (Low 469762049 (partS 469762049 m la lb f g n)) := Lib.hid HL1.out
              have HCV : Hid (∀ i, convS m la lb f g n i = joinS (partS 998244353 m la lb f g n i) (partS 469762049 m la lb f g n i)) := Lib.hid fun _ => rfl
              have HW5 := Lib.hid hw
              have HQ0 := Lib.hid hN0
              have HQ1 := Lib.hid hN1
              clear hw h0 h1 hN0 hN1 HPR HL0 HL1 HG4 HNE HB4 HW4 HN4
              generalize partS 998244353 m la lb f g n = P0 at *
              generalize partS 469762049 m la lb f g n = P1 at *
              obtain ⟨V, hV⟩ : ∃ V, convS m la lb f g n = V := ⟨_, rfl⟩
              rw [hV] at HCV
              have HV := Lib.hid hV
              clear hV
              go_wp2_with fail
              have hq6 := HW5.out.lt
              have HB6 := Lib.hid (HBE.out.alloc HBE.out.size (Obj.cells (madeCells #[.int .i64 0] N) 3))
              have HW6 := Lib.hid (HWE.out.alloc (Obj.cells (madeCells #[.int .i64 0] N) 3))
              have HG6 := Lib.hid (HW5.out.alloc (Obj.cells (madeCells #[.int .i64 0] N) 3))
              have HR0 := Lib.hid (HQ0.out.alloc (Obj.cells (madeCells #[.int .i64 0] N) 3))
              have HR1 := Lib.hid (HQ1.out.alloc (Obj.cells (madeCells #[.int .i64 0] N) 3))
              have hE0' := HQ0.out.lt
              have hE1' := HQ1.out.lt
              have HO6 := Lib.hid (World.rowIs_made wr (.int .i64 0) N 3)
              have hD := HBE.out.size
              clear HWE HBE HW5 HQ0 HQ1 hmk
              generalize wr.alloc (Obj.cells (madeCells #[.int .i64 0] N) 3) = W6 at *
              generalize wr.heap.size = D at *
              go_loopg [114] N (fun gk v114 wr => ∃ i : Nat, gk + i = N ∧ v114 = .int .i64 (i : Nat) ∧ W6.grownBy wr (some D) ∧ wr.rowIs D 3 N (fun j => .int .i64 (if j < i then V j else 0)))
              case atStart => exact ⟨0, by omega, rfl, grown_refl _ _, World.rowIs.congr HO6.out fun j _ => by rw [if_neg (by omega)]⟩
              case round =>
                clear HO6
                obtain ⟨i, hi, rfl, hgl, hro⟩ := hrel
                have HGL := Lib.hid hgl
                have HRO := Lib.hid hro
                clear hgl hro
                have HW7 := Lib.hid (HW6.out.grown HGL.out (fun e => by injection e with e; omega))
                rcases gk with _ | g6
                · obtain rfl : i = N := by omega
                  have c0 := HW7.out.cell 0
                  have c1 := HW7.out.cell 1
                  have f0 := HW7.out.frozen 0
                  have f1 := HW7.out.frozen 1
                  have hne : D ≠ w.heap.size := by omega
                  have FR : Hid (∀ u u', Row ((wr.setCell ⟨w.heap.size, 0, none⟩ u).setCell ⟨w.heap.size, 1, none⟩ u') (some ⟨D, 0, none⟩) i V) := Lib.hid fun u u' h => ⟨D, 0, rfl, by simpa [World.setCell] using World.rowIs.lt HRO.out, fun j hj => by
                    rw [Nat.zero_add]
                    refine (World.rowIs.cell (World.rowIs.setOther (World.rowIs.setOther HRO.out (a := ⟨w.heap.size, 0, none⟩) hne u) (a := ⟨w.heap.size, 1, none⟩) hne u') hj).trans ?_
                    rw [if_pos hj]⟩
                  have FB := Lib.hid (HB6.out.trans (below_of_grown HGL.out w.heap.size (by omega) HB6.out.size))
                  go_wp2_with fail
                  exact bodyPost_ret (v := .tuple #[.slice (some ⟨D, 0, none⟩) i i, .agg #[.int .i64 0, .int .i64 0]]) (by simp [results, Tryd.results8, go_sem, c0, c1]) rfl ⟨D, rfl, by omega, (FB.out.setCell (Nat.le_refl _) _).setCell (Nat.le_refl _) _, by rw [HV.out]; exact FR.out _ _⟩
                · have hlt : i < N := by omega
                  have hin : i < n := by omega
                  have ce := (HR0.out.grown HGL.out (show E0 ≠ D by omega)).cell i hin
                  have cf := (HR1.out.grown HGL.out (show E1 ≠ D by omega)).cell i hin
                  have HG7 := HG6.out.grown HGL.out (fun e => by injection e with e; omega)
                  have q0 := HG7.cell 0
                  have q1 := HG7.cell 1
                  have cD := World.rowIs.cell HRO.out hlt
                  have fD := World.rowIs.frozen HRO.out i
                  have HJ := Lib.hid (fun w => joined_any (P0 i) (P1 i) w (HL0'.out i) (HL1'.out i))
                  rw [if_neg (by omega)] at cD
                  rw [← HCV.out i] at HJ
                  have FIN := Lib.hid (fun q : Nat => show W6.grownBy ((wr.setCell ⟨D, i, none⟩ (.int .i64 (V i))).drewN q) (some D) ∧ ((wr.setCell ⟨D, i, none⟩ (.int .i64 (V i))).drewN q).rowIs D 3 N (fun j => .int .i64 (if j < i + 1 then V j else 0)) by
                    refine ⟨grown_drewN (grown_set HGL.out _ _) q, ?_⟩
                    refine World.rowIs.congr (World.rowIs.set HRO.out i (.int .i64 (V i))) fun j _ => ?_
                    by_cases e : j = i
                    · subst e; rw [if_pos rfl, if_pos (by omega)]
                    · rw [if_neg e]
                      by_cases e2 : j < i
                      · rw [if_pos e2, if_pos (by omega)]
                      · rw [if_neg e2, if_neg (by omega)])
                  clear HG7 HCV
                  generalize P0 i = x at *
                  generalize P1 i = y at *
                  generalize V i = v at *
                  go_wp2_with fail
                  refine wp_region_still_tail 14 (by kernel_rfl) (by kernel_rfl) ?_
                  simp only [List.take_succ_cons, List.take_zero, List.drop_succ_cons, List.drop_zero]
                  repeat still_step
                  still_call (HJ.out _)
                  repeat still_step
                  refine wpStill_nil ?_
                  all_goals
                    go_wp2_with fail
                    go_roundg g6
                    case measure => omega
                    case rel => exact ⟨i + 1, by omega, by go_num, FIN.out 1⟩
            · obtain ⟨p, hp, hp2, hpk⟩ : ∃ p : Nat, 100 < p ∧ p < 2147483648 ∧ ((k = 0 ∧ p = 998244353) ∨ (k = 1 ∧ p = 469762049)) := by
                rcases (show k = 0 ∨ k = 1 by omega) with rfl | rfl
                · exact ⟨998244353, by omega, by omega, Or.inl ⟨rfl, rfl⟩⟩
                · exact ⟨469762049, by omega, by omega, Or.inr ⟨rfl, rfl⟩⟩
              have hix : ∀ w : World, (Instr.index 43 (.agg #[.int .i64 998244353, .int .i64 469762049]) (.int .i64 (k : Nat))).run Tryd.prog w = .ok (.int .i64 (p : Nat)) w := by
                rcases hpk with ⟨rfl, rfl⟩ | ⟨rfl, rfl⟩ <;> intro w <;> rfl
              have HPK := Lib.hid hpk
              have hdec : decide ((k : Int) < 2) = true := decide_eq_true (by omega)
              clear hpk
              go_wp2_with fail
              clear hdec hix
              have HBp := Lib.hid (HBE.out.alloc HBE.out.size (Obj.cells #[.int .i64 (p : Nat)] 3))
              have HGp := Lib.hid ((Below.refl wr.heap.size wr).alloc (Nat.le_refl _) (Obj.cells #[.int .i64 (p : Nat)] 3))
              have hpz : wr.heap.size < (wr.alloc (Obj.cells #[.int .i64 (p : Nat)] 3)).heap.size := by simp
              have HCp : Hid (Whole (wr.alloc (Obj.cells #[.int .i64 (p : Nat)] 3)) wr.heap.size 3 #[.int .i64 (p : Nat)]) := Lib.hid (Whole.new _ _ _ _ rfl)
              have hgnr : gn < wr.heap.size := HNE.out.lt
              have HNp := Lib.hid (HNE.out.alloc (Obj.cells #[.int .i64 (p : Nat)] 3))
              have C1 := conv1_any m n la ca p gn wr.heap.size A f _ hl hn (by omega) hn2 (by omega) (HA.out.below HBp.out) (fun j hj => HF.out j hj) hp hp2 (by omega) hpz (HNp.out.cell 0) (HCp.out.cell 0)
              generalize wr.alloc (Obj.cells #[.int .i64 (p : Nat)] 3) = Wp at *
              refine C1.mono ?_
              rintro e w1 ⟨D1, rfl, hD1, hb1, hx1⟩
              have H1 := Lib.hid hb1
              have HX1 := Lib.hid hx1
              clear C1 hb1 hx1
              go_wp2_with fail
              have C2 := conv1_any m n lb cb p gn wr.heap.size B g w1 hl hn (by omega) hn2 (by omega) (HB.out.below (HBp.out.trans (H1.out.mono HBp.out.size))) (fun j hj => HG.out j hj) hp hp2 (by have := H1.out.size; omega) (by have := H1.out.size; omega) ((HNp.out.below H1.out (by omega)).cell 0) ((HCp.out.below H1.out hpz).cell 0)
              refine C2.mono ?_
              rintro e w2 ⟨D2, rfl, hD2, hb2', hx2⟩
              have H2 := Lib.hid hb2'
              have HX2 := Lib.hid hx2
              clear C2 hb2' hx2
              have hD12 : D1 < w1.heap.size := HX1.out.lt
              have HX1' := Lib.hid (HX1.out.below H2.out hD12)
              have H12 : Hid (Below Wp.heap.size Wp w2) := Lib.hid (H1.out.trans (H2.out.mono H1.out.size))
              have HCP2 := Lib.hid ((HCp.out.below H12.out hpz))
              have HLX := Lib.hid (Low.modS (show 0 < p by omega) false m (lowS_low f p la (by omega)))
              have HLY := Lib.hid (Low.modS (show 0 < p by omega) false m (lowS_low g p lb (by omega)))
              have HPX : Hid (modS p true m (prodS (modS p false m (lowS f p la)) (modS p false m (lowS g p lb)) p n) = partS p m la lb f g n) := Lib.hid rfl
              generalize modS p false m (lowS f p la) = X at *
              generalize modS p false m (lowS g p lb) = Y at *
              clear H1 H2 HX1 HNp HCp
              go_wp2_with fail
              obtain ⟨w3, hw3⟩ : ∃ w3, w3 = wr := ⟨_, rfl⟩
              subst hw3
              go_loopg [81] n (fun gk v81 wr => ∃ i : Nat, gk + i = n ∧ v81 = .int .i64 (i : Nat) ∧ w2.grownBy wr (some D1) ∧ Nums wr D1 n (prodS X Y p i))
              case atStart => exact ⟨0, by omega, rfl, grown_refl _ _, HX1'.out.congr fun j _ => by unfold prodS; rw [if_neg (by omega)]⟩
              case round =>
                clear HX1'
                obtain ⟨i, hi, rfl, hgl, hnl⟩ := hrel
                have HGL := Lib.hid hgl
                have HNL := Lib.hid hnl
                clear hgl hnl
                have hne1 : w3.heap.size ≠ D1 := by omega
                have hcp := (HCP2.out.grown HGL.out (fun e => hne1 (by injection e))).cell 0
                rcases gk with _ | g5
                · obtain rfl : i = n := by omega
                  have HM := Lib.hid (modulo_any m i i p true (some ⟨D1, 0, none⟩) (prodS X Y p i) wr hl hn (by omega) hn2 HNL.out.row hp hp2 (prodS_low X Y p i (by omega) HLX.out))
                  go_wp2_with fail
                  refine HM.out.mono ?_
                  rintro e w4 ⟨rfl, hb4, hn4⟩
                  have HB5 : Hid (Below w3.heap.size w3 w4) := Lib.hid (((HGp.out.trans (H12.out.mono HGp.out.size)).trans (below_of_grown HGL.out _ (by omega) ((HGp.out.trans (H12.out.mono HGp.out.size)).size))).trans (hb4.mono (by have := HGL.out.size; have := H12.out.size; omega)))
                  rw [HPX.out] at hn4
                  have HN5 := Lib.hid hn4
                  have hE : w3.heap.size ≤ wr.heap.size + 2 := by have := HGL.out.size; have := H12.out.size; omega
                  clear hb4 hn4 HM HGL HNL hcp
                  generalize wr.heap.size + 2 = E at *
                  obtain ⟨_, hq, v0, v1, hw, _⟩ := HPR.out
                  have hw' := hw.below HB5.out (by omega)
                  have fk := hw'.frozen k
                  rcases HPK.out with ⟨rfl, rfl⟩ | ⟨rfl, rfl⟩
                  · have ck := hw'.cell 0
                    have FIN := Lib.hid (HPR.out.zero HB5.out hE HN5.out)
                    clear hw hw' HPR HN5
                    go_wp2_with fail
                    go_roundg g4
                    case measure => omega
                    case rel => exact ⟨1, by omega, rfl, FIN.out⟩
                  · have ck := hw'.cell 1
                    have FIN := Lib.hid (HPR.out.one HB5.out hE HN5.out)
                    clear hw hw' HPR HN5
                    go_wp2_with fail
                    go_roundg g4
                    case measure => omega
                    case rel => exact ⟨2, by omega, rfl, FIN.out⟩
                · have hlt : i < n := by omega
                  have HNY := Lib.hid (HX2.out.grown HGL.out (show D2 ≠ D1 by omega))
                  have cx : wr.cell? ⟨D1, i, none⟩ = some (.int .i64 (X i : Nat)) := by
                    have h := HNL.out.cell i hlt
                    unfold prodS at h
                    rw [if_neg (by omega)] at h
                    exact h
                  have fx := HNL.out.frozen i
                  have cy := HNY.out.cell i hlt
                  have hxi := HLX.out i
                  have hyi := HLY.out i
                  obtain ⟨b1, b2⟩ := mul_low (X i) (Y i) (by omega) (by omega)
                  have hp0 : (0 : Int) < (p : Int) := by omega
                  have hcast : (X i : Int) * (Y i : Int) % (p : Int) = ((X i * Y i % p : Nat) : Int) := by rw [Int.natCast_emod, Int.natCast_mul]
                  have FIN := Lib.hid (fun q : Nat => show w2.grownBy ((wr.setCell ⟨D1, i, none⟩ (.int .i64 ((X i : Int) * (Y i : Int) % (p : Int)))).drewN q) (some D1) ∧ Nums ((wr.setCell ⟨D1, i, none⟩ (.int .i64 ((X i : Int) * (Y i : Int) % (p : Int)))).drewN q) D1 n (prodS X Y p (i + 1)) by
                    refine ⟨grown_drewN (grown_set HGL.out _ _) q, ?_⟩
                    rw [hcast]
                    refine ((HNL.out.set i _).congr fun j _ => ?_).drewN q
                    unfold upd prodS
                    by_cases e : j = i
                    · subst e; rw [if_pos rfl, if_pos (by omega)]
                    · rw [if_neg e]
                      by_cases e2 : j < i
                      · rw [if_pos e2, if_pos (by omega)]
                      · rw [if_neg e2, if_neg (by omega)])
                  clear HNL hcast
                  generalize X i = x at *
                  generalize Y i = y at *
                  go_wp2_with fail
                  go_region
                  go_wp2_with fail
                  go_roundg g5
                  case measure => omega
                  case rel => exact ⟨i + 1, by omega, by go_num, FIN.out 1⟩
        · have hlt := hmin.out m (by omega)
          have hp1 : ((2 ^ m : Nat) : Int) * 2 = ((2 ^ (m + 1) : Nat) : Int) := by rw [Nat.pow_succ]; omega
          have HP1 := Lib.hid hp1
          clear hp1
          have HWX : Hid (∀ u, Whole (wr.setCell ⟨gn, 0, none⟩ u) gn 3 #[u]) := Lib.hid fun u => by simpa using HWN.out.set 0 u
          generalize 2 ^ m = q at *
          go_wp2_with fail
          go_roundg g1
          case measure => omega
          case rel => exact ⟨m + 1, by omega, by rw [← HP1.out]; exact HWX.out _, grown_set HGR.out _ _⟩
    · obtain ⟨A', n', c', f', hcell, hrow, hrange, hn1', hn2'⟩ : ∃ (A' : Option Addr) (n' c' : Nat) (f' : Nat → Int), wr.cell? ⟨w.heap.size + 1, k, none⟩ = some (.slice A' n' c') ∧ Row wr A' n' f' ∧ (∀ j, j < n' → inC (f' j)) ∧ 1 ≤ n' ∧ n' ≤ 32 := by
        rcases (show k = 0 ∨ k = 1 by omega) with rfl | rfl
        · exact ⟨A, la, ca, f, HL0.out.cell 0, HA1.out, HF.out, ha, ha2⟩
        · exact ⟨B, lb, cb, g, HL0.out.cell 1, HB1.out, HG.out, hb, hb2⟩
      obtain ⟨b', o', rfl, hlt', hc'⟩ := hrow (by omega)
      have HC := Lib.hid hc'
      have HR := Lib.hid hrange
      clear hc' hrange hrow
      have hdec : decide ((k : Int) < 2) = true := decide_eq_true (by omega)
      go_wp2_with fail
      clear hdec
      obtain ⟨wo, hwo⟩ : ∃ wo, wo = wr := ⟨_, rfl⟩
      subst hwo
      go_loopg [34] n' (fun gk v34 w2 => ∃ j : Nat, gk + j = n' ∧ v34 = .int .i64 (j : Nat) ∧ w2 = wo)
      case atStart => exact ⟨0, by omega, rfl, rfl⟩
      case round =>
        obtain ⟨j, hj, rfl, rfl⟩ := hrel
        rcases gk with _ | gj
        · obtain rfl : j = n' := by omega
          go_wp2_with fail
          go_roundg g0
          case measure => omega
          case rel => exact ⟨k + 1, by omega, by go_num, rfl⟩
        · have hjl : j < n' := by omega
          have cj := HC.out j hjl
          obtain ⟨r1, r2⟩ := HR.out j hjl
          have r3 : ¬ f' j < -1000000 := by omega
          have r4 : ¬ 1000000 < f' j := by omega
          generalize f' j = x at *
          go_wp2_with fail
          go_roundg gj
          case measure => omega
          case rel => exact ⟨j + 1, by omega, by go_num, rfl⟩
end Go.Proofs.YtgeebjfbcjhifaaDoor
