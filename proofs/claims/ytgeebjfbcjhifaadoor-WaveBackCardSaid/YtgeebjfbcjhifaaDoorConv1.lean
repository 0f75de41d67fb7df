/- Proved here: the contract of Convolve's closure of package wave (a row modulo a prime, made longer by noughts, is transformed) at this program. Conditions: as the theorem says. -/
import Derived.Test.YtgeebjfbcjhifaaDoorJoined
import Derived.BigRegion
namespace Go.Proofs.YtgeebjfbcjhifaaDoor
open Go.ChangeShapes Go.WideShapes Go.ChangeAt Go.RowKit

/-- What a number is modulo p, not below 0. -/
def lowS (f : Nat → Int) (p i : Nat) : Nat → Nat := fun j => if j < i then (f j % (p : Int)).toNat else 0
theorem lowS_low (f : Nat → Int) (p i : Nat) (hp : 0 < p) : Low p (lowS f p i) := fun j => by
  unfold lowS
  split
  · have h1 := Int.emod_nonneg (f j) (show (p : Int) ≠ 0 by omega)
    have h2 := Int.emod_lt_of_pos (f j) (show (0 : Int) < p by omega)
    omega
  · exact hp
theorem rem_low (x : Int) (p : Nat) : x.tmod p % p = x % p := by
  have h := Int.mul_tdiv_add_tmod x p
  have e : x.tmod p = x - (p : Int) * x.tdiv p := by omega
  rw [e, Int.sub_mul_emod_self_left]

set_option maxRecDepth 100000 in
set_option maxHeartbeats 8000000 in
theorem conv1_any (lg n k c p gn gp : Nat) (A : Option Addr) (f : Nat → Int) (w : World) (hl : lg ≤ 6) (hn : Hid (n = 2 ^ lg)) (hn1 : 1 ≤ n) (hn2 : n ≤ 64) (hk : k ≤ n) (hR : Row w A k f) (hf : ∀ j, j < k → -1000000 ≤ f j ∧ f j ≤ 1000000) (hp : 100 < p) (hp2 : p < 2147483648)
    (_hgn : gn < w.heap.size) (hgp : gp < w.heap.size) (hcn : w.cell? ⟨gn, 0, none⟩ = some (.int .i64 (n : Nat))) (hcp : w.cell? ⟨gp, 0, none⟩ = some (.int .i64 (p : Nat))) :
    Calls Tryd.prog 13 #[.slice A k c, .pointer (some ⟨gn, 0, none⟩), .pointer (some ⟨gp, 0, none⟩)] w fun e w' => ∃ D, e = .returned (.slice (some ⟨D, 0, none⟩) n n) ∧ w.heap.size ≤ D ∧ Below w.heap.size w w' ∧ Nums w' D n (modS p false lg (lowS f p k)) := by
  have hmk : ∀ w : World, (Instr.makeSlice 22 (.int .i64 (n : Int)) (.int .i64 (n : Int))).run Tryd.prog w = .ok (.slice (some ⟨w.heap.size, 0, none⟩) n n) (w.alloc (.cells (madeCells #[.int .i64 0] n) 3)) := fun w => make_ints w n (by omega)
  have HR := Lib.hid hR
  have HF := Lib.hid hf
  clear hR hf
  go_enter Tryd.func13, Tryd.ntmps13
  go_wp2_with fail
  have HB0 := Lib.hid ((Below.refl w.heap.size w).alloc (Nat.le_refl _) (Obj.cells (madeCells #[.int .i64 0] n) 3))
  have HN0 := Lib.hid (nums_made w n)
  have HCN := Lib.hid hcn
  have HCP := Lib.hid hcp
  clear hmk hcn hcp
  generalize w.alloc (Obj.cells (madeCells #[.int .i64 0] n) 3) = w1 at *
  go_loopg [12] k (fun gk v12 wr => ∃ i : Nat, gk + i = k ∧ v12 = .int .i64 (i : Nat) ∧ Below w.heap.size w wr ∧ Nums wr w.heap.size n (lowS f p i))
  case atStart => exact ⟨0, by omega, rfl, HB0.out, HN0.out.congr fun j _ => by unfold lowS; rw [if_neg (by omega)]⟩
  case round =>
    clear HB0 HN0
    obtain ⟨i, hi, rfl, hbe, hnu⟩ := hrel
    have HBE := Lib.hid hbe
    have HNU := Lib.hid hnu
    clear hbe hnu
    have cp : wr.cell? ⟨gp, 0, none⟩ = some (.int .i64 (p : Nat)) := (HBE.out.cell (p := ⟨gp, 0, none⟩) hgp).trans HCP.out
    rcases gk with _ | g
    · obtain rfl : i = k := by omega
      have HM := Lib.hid (modulo_any lg n n p false (some ⟨w.heap.size, 0, none⟩) (lowS f p i) wr hl hn hn1 hn2 HNU.out.row hp hp2 (lowS_low f p i (by omega)))
      have hsz := HBE.out.size
      go_wp2_with fail
      refine HM.out.mono ?_
      rintro e w3 ⟨rfl, hb3, hn3⟩
      have HB3 := Lib.hid (HBE.out.trans (hb3.mono HBE.out.size))
      have HN3 := Lib.hid hn3
      clear hb3 hn3 HM
      go_wp2_with fail
      go_ret
      exact ⟨_, rfl, by omega, HB3.out, HN3.out⟩
    · have hlt : i < k := by omega
      obtain ⟨b, off, rfl, hb, hc⟩ := (HR.out.below HBE.out) (by omega)
      have ci := hc i hlt
      obtain ⟨f1, f2⟩ := HF.out i hlt
      have hin : i < n := by omega
      have cD := HNU.out.cell i hin
      have fD := HNU.out.frozen i
      have hlD := HNU.out.lt
      have hp0 : (0 : Int) < (p : Int) := by omega
      have t1 := Int.tmod_lt_of_pos (f i) hp0
      have t2 := Int.lt_tmod_of_pos (f i) hp0
      have t3 : 0 ≤ (f i).tmod (p : Int) + (p : Int) := by omega
      have t4 : (f i).tmod (p : Int) + (p : Int) < 4294967296 := by omega
      have hv : (f i).tmod (p : Int) % (p : Int) = (((f i % (p : Int)).toNat : Nat) : Int) := by
        rw [rem_low, Int.toNat_of_nonneg (Int.emod_nonneg _ (by omega))]
      have FIN := Lib.hid (fun q : Nat => show Below w.heap.size w ((wr.setCell ⟨w.heap.size, i, none⟩ (.int .i64 ((f i).tmod (p : Int) % (p : Int)))).drewN q) ∧ Nums ((wr.setCell ⟨w.heap.size, i, none⟩ (.int .i64 ((f i).tmod (p : Int) % (p : Int)))).drewN q) w.heap.size n (lowS f p (i + 1)) by
        refine ⟨below_drewN (HBE.out.setCell (Nat.le_refl _) _) q, ?_⟩
        rw [hv]
        refine ((HNU.out.set i _).congr fun j _ => ?_).drewN q
        unfold upd lowS
        by_cases e : j = i
        · subst e; rw [if_pos rfl, if_pos (by omega)]
        · rw [if_neg e]
          by_cases e2 : j < i
          · rw [if_pos e2, if_pos (by omega)]
          · rw [if_neg e2, if_neg (by omega)])
      have hne : gp ≠ w.heap.size := by omega
      clear HNU hv hc
      generalize f i = x at *
      generalize lowS f p i i = d0 at *
      go_wp2_with fail
      go_region
      go_wp2_with fail
      go_roundg g
      case measure => omega
      case rel => exact ⟨i + 1, by omega, by go_num, FIN.out 1⟩
end Go.Proofs.YtgeebjfbcjhifaaDoor
