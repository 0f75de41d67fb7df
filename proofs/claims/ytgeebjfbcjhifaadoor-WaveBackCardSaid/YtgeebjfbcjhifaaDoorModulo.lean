/- Proved here: the contract of package wave's modulo at this program. Conditions: as the theorem says. -/
import Derived.Test.YtgeebjfbcjhifaaDoorWheel
import Derived.BigRegion
namespace Go.Proofs.YtgeebjfbcjhifaaDoor
open Go.ChangeShapes Go.WideShapes Go.ChangeAt Go.RowKit

theorem Nums.congr {w : World} {D N : Nat} {s t : Nat → Nat} (h : Nums w D N s) (e : ∀ j, j < N → s j = t j) : Nums w D N t := World.rowIs.congr h fun j hj => by rw [e j hj]
def scl (s : Nat → Nat) (r p i : Nat) : Nat → Nat := fun j => if j < i then s j * r % p else s j

set_option maxRecDepth 100000 in
set_option maxHeartbeats 8000000 in
theorem modulo_any (lg n c p : Nat) (back : Bool) (A : Option Addr) (l : Nat → Nat) (w : World) (hl : lg ≤ 6) (hn : Hid (n = 2 ^ lg)) (hn1 : 1 ≤ n) (hn2 : n ≤ 64) (hR : Row w A n (fun j => (l j : Int))) (hp : 100 < p) (hp2 : p < 2147483648) (hlow : Low p l) :
    Calls Tryd.prog 12 #[.slice A n c, .int .i64 (p : Nat), .bool back] w fun e w' => e = .returned (.slice (some ⟨w.heap.size + 2, 0, none⟩) n n) ∧ Below w.heap.size w w' ∧ Nums w' (w.heap.size + 2) n (modS p back lg l) := by
  have HR := Lib.hid hR
  have HLOW := Lib.hid hlow
  have hmf : ∀ (fn : Fn) (first cap : Array Value) (w : World), (Instr.makeFunc fn first cap).run Tryd.prog w = .ok (.func fn first cap) w := fun _ _ _ _ => rfl
  clear hR hlow
  go_enter Tryd.func12, Tryd.ntmps12
  go_wp2_with fail
  have HB0 := Lib.hid (((Below.refl w.heap.size w).alloc (Nat.le_refl _) (Obj.cells #[.int .i64 (p : Nat)] 3)).alloc (by simp) (Obj.cells #[.bool back] 4))
  have hcp : ((w.alloc (Obj.cells #[.int .i64 (p : Nat)] 3)).alloc (Obj.cells #[.bool back] 4)).cell? ⟨w.heap.size, 0, none⟩ = some (.int .i64 (p : Nat)) := by simp [go_sem]
  have hcb : ((w.alloc (Obj.cells #[.int .i64 (p : Nat)] 3)).alloc (Obj.cells #[.bool back] 4)).cell? ⟨w.heap.size + 1, 0, none⟩ = some (.bool back) := by simp [go_sem]
  have hsz : ((w.alloc (Obj.cells #[.int .i64 (p : Nat)] 3)).alloc (Obj.cells #[.bool back] 4)).heap.size = w.heap.size + 2 := by simp
  have HR2 := Lib.hid ((HR.out.below ((Below.refl _ _).alloc (Nat.le_refl _) (Obj.cells #[.int .i64 (p : Nat)] 3))).below ((Below.refl _ _).alloc (Nat.le_refl _) (Obj.cells #[.bool back] 4)))
  clear HR hmf
  generalize (w.alloc (Obj.cells #[.int .i64 (p : Nat)] 3)).alloc (Obj.cells #[.bool back] 4) = w2 at *
  have HW := wheel_any lg n c p w.heap.size (w.heap.size + 1) back A l w2 hl hn hn1 hn2 HR2.out (by omega) hp2 HLOW.out (by omega) (by omega) hcp hcb
  rw [hsz] at HW
  have HHW := Lib.hid HW
  have HLW := Lib.hid (Low.wheelS (show 0 < p by omega) back lg HLOW.out)
  have HPW := Lib.hid (pw_lt (2 ^ lg) (p - 2) p (by omega))
  have HM : Hid (modS p back lg l = if back then fun j => wheelS p back lg l j * pw (2 ^ lg) (p - 2) p % p else wheelS p back lg l) := Lib.hid rfl
  have CPW := fun w' => power_any n (p - 2) p w' (by omega) hp2 (by omega) (by omega) (pw n (p - 2) p) (Lib.hid rfl)
  rw [show ((p - 2 : Nat) : Int) = (p : Int) - 2 by omega] at CPW
  rw [← hn.out] at HPW HM
  have HCPW := Lib.hid CPW
  clear HR2 HLOW HW CPW
  generalize pw n (p - 2) p = r at *
  generalize wheelS p back lg l = s at *
  refine HHW.out.mono ?_
  rintro e w3 ⟨rfl, hb3, hn3⟩
  have hb3' : Below (w.heap.size + 2) w2 w3 := hb3
  have hcp3 : w3.cell? ⟨w.heap.size, 0, none⟩ = some (.int .i64 (p : Nat)) := (hb3'.cell (p := ⟨w.heap.size, 0, none⟩) (show w.heap.size < w.heap.size + 2 by omega)).trans hcp
  have hcb3 : w3.cell? ⟨w.heap.size + 1, 0, none⟩ = some (.bool back) := (hb3'.cell (p := ⟨w.heap.size + 1, 0, none⟩) (show w.heap.size + 1 < w.heap.size + 2 by omega)).trans hcb
  have HB3 := Lib.hid (HB0.out.trans (hb3'.mono (by omega)))
  have HN3 := Lib.hid hn3
  clear hb3 hb3' hn3 hcp hcb HHW hsz
  cases back
  · have HSM : Hid (modS p false lg l = s) := Lib.hid HM.out
    clear HM
    go_wp2_with fail
    go_ret
    exact ⟨rfl, HB3.out, HN3.out.congr fun j _ => by rw [HSM.out]⟩
  · have HSM : Hid (modS p true lg l = fun j => s j * r % p) := Lib.hid HM.out
    clear HM
    go_wp2_with (go_at_call 28; refine (HCPW.out _).mono ?_; rintro e w' ⟨rfl, rfl⟩)
    go_loopg [25] n (fun gk v25 wr => ∃ i : Nat, gk + i = n ∧ v25 = .int .i64 (i : Nat) ∧ wr.cell? ⟨w.heap.size, 0, none⟩ = some (.int .i64 (p : Nat)) ∧ Below w.heap.size w wr ∧ Nums wr (w.heap.size + 2) n (scl s r p i))
    case atStart => exact ⟨0, by omega, rfl, hcp3, HB3.out, HN3.out.congr fun j _ => by unfold scl; rw [if_neg (by omega)]⟩
    case round =>
      clear HB3 HN3 hcp3 hcb3
      obtain ⟨i, hi, rfl, hcp, hbe, hnu⟩ := hrel
      have HBE := Lib.hid hbe
      have HNU := Lib.hid hnu
      clear hbe hnu
      rcases gk with _ | g
      · obtain rfl : i = n := by omega
        go_wp2_with fail
        go_ret
        exact ⟨rfl, HBE.out, HNU.out.congr fun j hj => by rw [HSM.out]; unfold scl; rw [if_pos hj]⟩
      · have hlt : i < n := by omega
        have ci : wr.cell? ⟨w.heap.size + 2, i, none⟩ = some (.int .i64 (s i : Nat)) := by
          have h := HNU.out.cell i hlt
          unfold scl at h
          rw [if_neg (by omega)] at h
          exact h
        have fi := HNU.out.frozen i
        have hsi := HLW.out i
        have hr := HPW.out
        obtain ⟨b1, b2⟩ := mul_low (s i) r (by omega) (by omega)
        have hp0 : (0 : Int) < (p : Int) := by omega
        have hne : w.heap.size ≠ w.heap.size + 2 := by omega
        have hcast : (s i : Int) * (r : Int) % (p : Int) = ((s i * r % p : Nat) : Int) := by rw [Int.natCast_emod, Int.natCast_mul]
        have FIN := Lib.hid (fun q : Nat => show (((wr.setCell ⟨w.heap.size + 2, i, none⟩ (.int .i64 ((s i : Int) * (r : Int) % (p : Int)))).drewN q).cell? ⟨w.heap.size, 0, none⟩ = some (.int .i64 (p : Nat))) ∧ Below w.heap.size w ((wr.setCell ⟨w.heap.size + 2, i, none⟩ (.int .i64 ((s i : Int) * (r : Int) % (p : Int)))).drewN q) ∧ Nums ((wr.setCell ⟨w.heap.size + 2, i, none⟩ (.int .i64 ((s i : Int) * (r : Int) % (p : Int)))).drewN q) (w.heap.size + 2) n (scl s r p (i + 1)) by
          refine ⟨?_, below_drewN (HBE.out.setCell (show w.heap.size ≤ w.heap.size + 2 by omega) _) q, ?_⟩
          · have h := Below.heap_setCell wr ⟨w.heap.size + 2, i, none⟩ (.int .i64 ((s i : Int) * (r : Int) % (p : Int))) w.heap.size (by show w.heap.size ≠ w.heap.size + 2; omega)
            exact (World.cell?_of_block (a := ⟨w.heap.size, 0, none⟩) h).trans hcp
          · rw [hcast]
            refine ((HNU.out.set i (s i * r % p)).congr fun j _ => ?_).drewN q
            unfold upd scl
            by_cases e : j = i
            · subst e; rw [if_pos rfl, if_pos (by omega)]
            · rw [if_neg e]
              by_cases e2 : j < i
              · rw [if_pos e2, if_pos (by omega)]
              · rw [if_neg e2, if_neg (by omega)])
        clear HNU hcast
        generalize s i = u at *
        go_wp2_with fail
        go_region
        go_wp2_with fail
        go_roundg g
        case measure => omega
        case rel => exact ⟨i + 1, by omega, by go_num, FIN.out 1⟩
end Go.Proofs.YtgeebjfbcjhifaaDoor
