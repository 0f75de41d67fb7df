/- Proved here: the law ChanceSays holds at this program. Conditions: as the theorem says. -/
import Derived.Test.YtjjfkidddjcdcaaDoorSecs2
import Derived.Test.YtjjfkidddjcdcaaDoorSaysKeep
import Derived.Test.YtjjfkidddjcdcaaDoorFlips2
import Derived.Deep.CutRange
import Derived.Deep.RegionHeld3
namespace Go.Proofs.YtjjfkidddjcdcaaDoor
open Go.ChangeShapes Go.WideShapes Go.ChangeAt Go.RowKit

set_option maxRecDepth 100000 in
set_option maxHeartbeats 40000000 in
theorem says_true (p q N : Int) (n c : Nat) (A : Option Addr) (f : Nat → Int) (w : World) (hn9 : n ≤ 9223372036854775807) (hnc : n ≤ c) (hnil : A = none → n = 0 ∧ c = 0) (hR : Row w A n f) (hG : Glob w) :
    Calls Tryd.prog 8 #[.int .i64 p, .int .i64 q, .int .i64 N, .slice A n c] w fun e w' => e = .returned (.bool true) ∧ Below w.heap.size w w' := by
  have HR := Lib.hid hR
  have HG := Lib.hid hG
  have HNIL := Lib.hid hnil
  have HG1 := Lib.hid hG.sz
  have HFAR : Hid (0 < n → ∀ a, A = some a → a.block < w.heap.size) := fun h0 a ha => by
    obtain ⟨b, o, e, hb, _⟩ := hR h0
    rw [ha] at e
    injection e with e
    subst e
    exact hb
  clear hnil
  have hmf : ∀ (fn : Fn) (first cap : Array Value) (w : World), (Instr.makeFunc fn first cap).run Tryd.prog w = .ok (.func fn first cap) w := fun _ _ _ _ => rfl
  have hb0 := below_new w (Obj.cells #[.slice A n c] 23)
  have h7 : (w.alloc (Obj.cells #[.slice A n c] 23)).cell? ⟨w.heap.size, 0, none⟩ = some (.slice A n c) := by simp [go_sem]
  have hs0 : (w.alloc (Obj.cells #[.slice A n c] 23)).heap.size = w.heap.size + 1 := by simp
  have HR0 := Lib.hid (HR.out.below hb0)
  have HG0 := Lib.hid (HG.out.below hb0)
  clear hR hG
  go_enter Tryd.func8, Tryd.ntmps8
  go_wp2_with fail
  generalize w.alloc (Obj.cells #[.slice A n c] 23) = w1 at *
  refine (flips_true w1 HG0.out).mono ?_
  rintro e w2 ⟨rfl, hb2⟩
  have q7 : w2.cell? ⟨w.heap.size, 0, none⟩ = some (.slice A n c) := (hb2.cell (p := ⟨w.heap.size, 0, none⟩) (show w.heap.size < w1.heap.size by omega)).trans h7
  have hb02 := hb0.trans (hb2.mono hb0.size)
  have HB02 := Lib.hid hb02
  have hs2 : w.heap.size < w2.heap.size := by have := hb2.size; omega
  have HR2 := Lib.hid (HR0.out.below hb2)
  have HG2 := Lib.hid (HG0.out.below hb2)
  clear hb0 h7 hs0 hb2 hb02 HR0 HG0
  by_cases hn : n ≤ 3000
  · go_wp2_with fail
    refine (lend_any n c A f (-9) w2 hn HR2.out HNIL.out).mono ?_
    rintro e w3 ⟨rfl, hb3, ho3⟩
    have q3 : w3.cell? ⟨w.heap.size, 0, none⟩ = some (.slice A n c) := (hb3.cell (p := ⟨w.heap.size, 0, none⟩) hs2).trans q7
    have hs3 : w.heap.size < w3.heap.size := Nat.lt_of_lt_of_le hs2 hb3.size
    have HR3 := Lib.hid (HR2.out.below hb3)
    have HG3 := Lib.hid (HG2.out.below hb3)
    have HO3 := Lib.hid ho3
    have HB03 := Lib.hid (HB02.out.trans (hb3.mono HB02.out.size))
    have hgo : w.heap.size ≤ w2.heap.size := by omega
    have hgo3 : w2.heap.size < w3.heap.size := by
      obtain ⟨b, o, e, hb, _⟩ := ho3 (by omega)
      injection e with e
      injection e with e
      omega
    clear hb3 ho3 HR2 HG2 HB02 q7
    generalize w2.heap.size = go at *
    go_wp2_with fail
    obtain ⟨code, at_, hBA⟩ := bits_total f n
    refine (bits_any f n c code at_ A w3 hBA hn HR3.out).mono ?_
    rintro e w4 ⟨rfl, hb4⟩
    have q4 : w4.cell? ⟨w.heap.size, 0, none⟩ = some (.slice A n c) := (hb4.cell (p := ⟨w.heap.size, 0, none⟩) hs3).trans q3
    have hs4 : w.heap.size < w4.heap.size := Nat.lt_of_lt_of_le hs3 hb4.size
    have hb5 := below_new w4 (Obj.cells #[.int .i64 code, .int .i64 at_] 26)
    have hb45 := hb4.trans (hb5.mono hb4.size)
    have HS : Says w w.heap.size w4.heap.size go n c A f code at_ (w4.alloc (Obj.cells #[.int .i64 code, .int .i64 at_] 26)) :=
      ⟨(hb5.cell (p := ⟨w.heap.size, 0, none⟩) hs4).trans q4, by simp [go_sem], by simp [go_sem], by simp; omega, by simp, by have := hb4.size; simp; omega, HR3.out.below hb45, HO3.out.below hb45, HG3.out.below hb45, HB03.out.trans (hb45.mono HB03.out.size), Nat.le_refl _, Nat.le_of_lt hs4, hgo, HFAR.out, HG1.out⟩
    have HHS := Lib.hid HS
    have hb10 : w.heap.size < w4.heap.size := hs4
    have HBA := Lib.hid hBA
    clear hb4 hb5 hb45 HS HR3 HO3 HG3 HB03 q3 q4 hs2 hs3 hgo hBA
    go_upto_region 9 with fail
    generalize w4.alloc (Obj.cells #[.int .i64 code, .int .i64 at_] 26) = W at *
    generalize hb7 : w.heap.size = b7 at *
    generalize w4.heap.size = b10 at *
    clear hmf
    obtain ⟨V1, hV⟩ : ∃ V, V = W := ⟨_, rfl⟩
    subst hV
    have HT := Lib.hid HHS.out
    clear HHS
    obtain ⟨y1, u1, o1, c1, a1, g1, h1, hS⟩ := flip_same p q f n code at_ HBA.out hn
    obtain ⟨lim, hlim⟩ : ∃ l, decide (1 ≤ q ∧ q ≤ 1000000 ∧ 0 ≤ p ∧ p ≤ q) = l := ⟨_, rfl⟩
    rw [hlim] at hS
    have HS1 := Lib.hid hS
    have CL := Lib.hid (limits_any lim code at_ b10 b7 n c A V1 HT.out.l7 HT.out.c7 HT.out.l10 HT.out.c10 HT.out.d10 c1 a1 hS.lims)
    have hways := ways4 hlim
    clear hlim hS
    go_upto_region 9 with fail
    go_cut [13, 14, 15, 16] from 26 (fun s13 s14 s15 s16 wx => ∃ b13, s13 = .pointer (some ⟨b13, 0, none⟩) ∧ s14 = .bool false ∧ s15 = .int .i64 0 ∧ s16 = .bool true ∧ Hid (Says w b7 b10 go n c A f code at_ wx ∧ Fault w b7 b10 go b13 c1 a1 wx))
    case first =>
      as_aux_lemma =>
        rcases hways with ⟨k1, k2, k3, k4, rfl⟩ | ⟨k1, rfl⟩ | ⟨k1, k2, rfl⟩ | ⟨k1, k2, k3, rfl⟩ | ⟨k1, k2, k3, k4, rfl⟩
        all_goals
          go_wp2_with (go_at_call 42; refine CL.out.mono ?_; rintro e w5 ⟨rfl, hb5⟩)
          go_meet
          obtain ⟨t1, t2⟩ := says_new HT.out hb5 c1 a1
          exact ⟨_, rfl, rfl, rfl, rfl, t1, t2⟩
    case rest =>
    as_aux_lemma =>
    clear hways CL HT
    obtain ⟨b13, rfl, rfl, rfl, rfl, hH⟩ := hcut
    obtain ⟨U1, hU⟩ : ∃ U, U = wc := ⟨_, rfl⟩
    subst hU
    have HT := Lib.hid hH.out.1
    have HF := Lib.hid hH.out.2
    clear hH
    have f13 : U1.cell? ⟨b13, 0, none⟩ = some (.int .i64 c1) := HF.out.cell.cell 0
    go_upto_if 56 with fail
    go_cut [14, 15, 16] from 26 (fun s14 s15 s16 wx => s14 = .bool y1 ∧ s15 = .int .i64 u1 ∧ s16 = .bool o1 ∧ Hid (Says w b7 b10 go n c A f code at_ wx ∧ Fault w b7 b10 go b13 c1 a1 wx))
    case first =>
      as_aux_lemma =>
        by_cases hc1 : c1 = 0
        · have z1 : (c1 == 0) = true := by simpa using hc1
          have CD := Lib.hid (HS1.out.doc hc1 A c U1 hnc HT.out.row)
          have HNO := Lib.hid (HS1.out.none_.2 hc1)
          have q7 := HT.out.c7
          go_wp2_with fail
          refine CD.out.mono ?_
          rintro e w5 ⟨hb5, y0, u0, rfl, hyu⟩
          have HH5 := Lib.hid (And.intro (HT.out.below hb5) (HF.out.below hb5))
          cases o1
          · obtain ⟨rfl, rfl⟩ := HNO.out rfl
            clear hyu HNO
            go_wp2_with fail
            go_meet
            exact ⟨rfl, rfl, rfl, HH5.out.1, HH5.out.2⟩
          · obtain ⟨rfl, rfl⟩ := hyu rfl
            clear hyu HNO
            go_wp2_with fail
            go_meet
            exact ⟨rfl, rfl, rfl, HH5.out.1, HH5.out.2⟩
        · have z1 : (c1 == 0) = false := by simpa using hc1
          obtain ⟨e1, e2, e3⟩ := HS1.out.none_.1 hc1
          subst e1 e2 e3
          go_wp2_with fail
          go_meet
          exact ⟨rfl, rfl, rfl, HT.out, HF.out⟩
    case rest =>
    as_aux_lemma =>
    clear HT HF f13
    obtain ⟨rfl, rfl, rfl, hH⟩ := hcut
    obtain ⟨X1, hX⟩ : ∃ X, X = wc := ⟨_, rfl⟩
    subst hX
    have HT := Lib.hid hH.out.1
    have HF := Lib.hid hH.out.2
    clear hH
    have CP := Lib.hid (HS1.out.pro (some ⟨go, 0, none⟩) (n + 3) X1 HT.out.ownRow)
    go_wp2_with fail
    refine CP.out.mono ?_
    rintro e w5 ⟨rfl, hb5⟩
    obtain ⟨t1, t2⟩ := says_new HT.out hb5 g1 h1
    have t3 := (HF.out.below hb5).below (below_new w5 (Obj.cells #[.int .i64 g1, .int .i64 h1] 26))
    have hne : w5.heap.size ≠ b13 := by have := (HF.out.below hb5).cell.lt; omega
    have HT3 := Lib.hid t1
    have HE3 := Lib.hid t2
    have HF3 := Lib.hid t3
    clear t1 t2 t3 hb5 HT HF CP
    go_upto_region 15 with fail
    generalize w5.alloc (Obj.cells #[.int .i64 g1, .int .i64 h1] 26) = W1 at *
    generalize w5.heap.size = b19 at *
    go_cut [90] from 26 (fun s90 wx => s90 = .bool false ∧ Hid (Says w b7 b10 go n c A f code at_ wx ∧ Fault w b7 b10 go b13 c1 a1 wx ∧ Fault w b7 b10 go b19 g1 h1 wx))
    case first =>
      as_aux_lemma =>
        have hd := (Below.refl W1.heap.size W1).drew
        have HTd := Lib.hid (HT3.out.below hd)
        have HEd := Lib.hid (HE3.out.below hd)
        have HFd := Lib.hid (HF3.out.below hd)
        have CS := Lib.hid (short_any o1 c1 a1 b7 n c A W1.drew HTd.out.l7 HTd.out.c7 g1 h1 HS1.out.shorts)
        have HF0 := Lib.hid (FourCells.of HEd.out HFd.out)
        have F1 := Lib.hid (fun w6 (hb6 : Below W1.drew.heap.size W1.drew w6) => FourCells.of (HEd.out.below hb6) (HFd.out.below hb6))
        have zy : (y1 != y1) = false := by simp
        have zu : (u1 != u1) = false := by simp
        clear hd
        go_region_held3 (fun w' => w'.cell? ⟨b19, 0, none⟩ = some (.int .i64 g1) ∧ w'.cell? ⟨b19, 1, none⟩ = some (.int .i64 h1) ∧ w'.cell? ⟨b13, 0, none⟩ = some (.int .i64 c1) ∧ w'.cell? ⟨b13, 1, none⟩ = some (.int .i64 a1)) (first | exact HF0.out | exact F1.out _ hb6) (first
          | (go_at_call 40; refine CS.out.mono ?_; rintro e w6 ⟨rfl, hb6⟩))
        go_wp2_with fail
        go_meet
        exact ⟨rfl, HTd.out.below hb6, HFd.out.below hb6, HEd.out.below hb6⟩
    case rest =>
    as_aux_lemma =>
    clear HT3 HE3 HF3 HS1
    obtain ⟨rfl, hH⟩ := hcut
    obtain ⟨V2, hV⟩ : ∃ V, V = wc := ⟨_, rfl⟩
    subst hV
    have HT := Lib.hid hH.out.1
    have HF := Lib.hid hH.out.2.1
    have HE := Lib.hid hH.out.2.2
    clear hH
    obtain ⟨y2, u2, o2, c2, a2, g2, h2, hS⟩ := fade_same p q f n code at_ HBA.out hn
    obtain ⟨lim, hlim⟩ : ∃ l, decide (1 ≤ q ∧ q ≤ 1000 ∧ 0 ≤ p ∧ p ≤ q) = l := ⟨_, rfl⟩
    rw [hlim] at hS
    have HS1 := Lib.hid hS
    have CL := Lib.hid (limits_any lim code at_ b10 b7 n c A V2 HT.out.l7 HT.out.c7 HT.out.l10 HT.out.c10 HT.out.d10 c2 a2 hS.lims)
    have hways := ways4 hlim
    clear hlim hS
    go_upto_region 17 with fail
    go_cut [14, 15, 16] from 26 (fun s14 s15 s16 wx => s14 = .bool false ∧ s15 = .int .i64 0 ∧ s16 = .bool true ∧ Hid (Says w b7 b10 go n c A f code at_ wx ∧ Fault w b7 b10 go b13 c2 a2 wx ∧ Fault w b7 b10 go b19 g1 h1 wx))
    case first =>
      as_aux_lemma =>
        rcases hways with ⟨k1, k2, k3, k4, rfl⟩ | ⟨k1, rfl⟩ | ⟨k1, k2, rfl⟩ | ⟨k1, k2, k3, rfl⟩ | ⟨k1, k2, k3, k4, rfl⟩
        all_goals
          go_wp2_with (go_at_call 42; refine CL.out.mono ?_; rintro e w5 ⟨rfl, hb5⟩; have r1 : w5.cell? ⟨b13, 0, none⟩ = some (.int .i64 c1) := (HF.out.below hb5).cell.cell 0; have r2 : w5.cell? ⟨b13, 1, none⟩ = some (.int .i64 a1) := (HF.out.below hb5).cell.cell 1; have r3 := (HF.out.below hb5).cell.frozen 0; have r4 := (HF.out.below hb5).cell.frozen 1)
          go_meet
          obtain ⟨t1, t2⟩ := says_set (HT.out.below hb5) (HF.out.below hb5) c2 a2
          exact ⟨rfl, rfl, rfl, t1, t2, (HE.out.below hb5).set hne c2 a2⟩
    case rest =>
    as_aux_lemma =>
    clear hways CL HT HF HE
    obtain ⟨rfl, rfl, rfl, hH⟩ := hcut
    obtain ⟨U2, hU⟩ : ∃ U, U = wc := ⟨_, rfl⟩
    subst hU
    have HT := Lib.hid hH.out.1
    have HF := Lib.hid hH.out.2.1
    have HE := Lib.hid hH.out.2.2
    clear hH
    have f13 : U2.cell? ⟨b13, 0, none⟩ = some (.int .i64 c2) := HF.out.cell.cell 0
    go_upto_if 110 with fail
    go_cut [14, 15, 16] from 26 (fun s14 s15 s16 wx => s14 = .bool y2 ∧ s15 = .int .i64 u2 ∧ s16 = .bool o2 ∧ Hid (Says w b7 b10 go n c A f code at_ wx ∧ Fault w b7 b10 go b13 c2 a2 wx ∧ Fault w b7 b10 go b19 g1 h1 wx))
    case first =>
      as_aux_lemma =>
        by_cases hc1 : c2 = 0
        · have z1 : (c2 == 0) = true := by simpa using hc1
          have CD := Lib.hid (HS1.out.doc hc1 A c U2 hnc HT.out.row)
          have HNO := Lib.hid (HS1.out.none_.2 hc1)
          have q7 := HT.out.c7
          go_wp2_with fail
          refine CD.out.mono ?_
          rintro e w5 ⟨hb5, y0, u0, rfl, hyu⟩
          have HH5 := Lib.hid (And.intro (HT.out.below hb5) (And.intro (HF.out.below hb5) (HE.out.below hb5)))
          cases o2
          · obtain ⟨rfl, rfl⟩ := HNO.out rfl
            clear hyu HNO
            go_wp2_with fail
            go_meet
            exact ⟨rfl, rfl, rfl, HH5.out.1, HH5.out.2.1, HH5.out.2.2⟩
          · obtain ⟨rfl, rfl⟩ := hyu rfl
            clear hyu HNO
            go_wp2_with fail
            go_meet
            exact ⟨rfl, rfl, rfl, HH5.out.1, HH5.out.2.1, HH5.out.2.2⟩
        · have z1 : (c2 == 0) = false := by simpa using hc1
          obtain ⟨e1, e2, e3⟩ := HS1.out.none_.1 hc1
          subst e1 e2 e3
          go_wp2_with fail
          go_meet
          exact ⟨rfl, rfl, rfl, HT.out, HF.out, HE.out⟩
    case rest =>
    as_aux_lemma =>
    clear HT HF f13 HE
    obtain ⟨rfl, rfl, rfl, hH⟩ := hcut
    obtain ⟨X2, hX⟩ : ∃ X, X = wc := ⟨_, rfl⟩
    subst hX
    have HT := Lib.hid hH.out.1
    have HF := Lib.hid hH.out.2.1
    have HE := Lib.hid hH.out.2.2
    clear hH
    have CP := Lib.hid (HS1.out.pro (some ⟨go, 0, none⟩) (n + 3) X2 HT.out.ownRow)
    go_wp2_with fail
    refine CP.out.mono ?_
    rintro e w5 ⟨rfl, hb5⟩
    have r1 : w5.cell? ⟨b19, 0, none⟩ = some (.int .i64 g1) := (HE.out.below hb5).cell.cell 0
    have r2 : w5.cell? ⟨b19, 1, none⟩ = some (.int .i64 h1) := (HE.out.below hb5).cell.cell 1
    have r3 := (HE.out.below hb5).cell.frozen 0
    have r4 := (HE.out.below hb5).cell.frozen 1
    obtain ⟨t1, t2⟩ := says_set (HT.out.below hb5) (HE.out.below hb5) g2 h2
    have t3 := (HF.out.below hb5).set hne.symm g2 h2
    have HT3 := Lib.hid t1
    have HE3 := Lib.hid t2
    have HF3 := Lib.hid t3
    clear t1 t2 t3 hb5 HT HF HE CP
    go_upto_region 23 with fail
    clear r1 r2 r3 r4
    obtain ⟨W2, hW⟩ : ∃ W, W = putFault w5 b19 g2 h2 := ⟨_, rfl⟩
    rw [← hW] at HT3 HE3 HF3
    change Code.wp _ _ _ _ (putFault w5 b19 g2 h2)
    rw [← hW]
    clear hW
    go_cut [144] from 26 (fun s144 wx => s144 = .bool false ∧ Hid (Says w b7 b10 go n c A f code at_ wx ∧ Fault w b7 b10 go b13 c2 a2 wx ∧ Fault w b7 b10 go b19 g2 h2 wx))
    case first =>
      as_aux_lemma =>
        have hd := (Below.refl W2.heap.size W2).drew
        have HTd := Lib.hid (HT3.out.below hd)
        have HEd := Lib.hid (HE3.out.below hd)
        have HFd := Lib.hid (HF3.out.below hd)
        have CS := Lib.hid (short_any o2 c2 a2 b7 n c A W2.drew HTd.out.l7 HTd.out.c7 g2 h2 HS1.out.shorts)
        have HF0 := Lib.hid (FourCells.of HEd.out HFd.out)
        have F1 := Lib.hid (fun w6 (hb6 : Below W2.drew.heap.size W2.drew w6) => FourCells.of (HEd.out.below hb6) (HFd.out.below hb6))
        have zy : (y2 != y2) = false := by simp
        have zu : (u2 != u2) = false := by simp
        clear hd
        go_region_held3 (fun w' => w'.cell? ⟨b19, 0, none⟩ = some (.int .i64 g2) ∧ w'.cell? ⟨b19, 1, none⟩ = some (.int .i64 h2) ∧ w'.cell? ⟨b13, 0, none⟩ = some (.int .i64 c2) ∧ w'.cell? ⟨b13, 1, none⟩ = some (.int .i64 a2)) (first | exact HF0.out | exact F1.out _ hb6) (first
          | (go_at_call 40; refine CS.out.mono ?_; rintro e w6 ⟨rfl, hb6⟩))
        go_wp2_with fail
        go_meet
        exact ⟨rfl, HTd.out.below hb6, HFd.out.below hb6, HEd.out.below hb6⟩
    case rest =>
    as_aux_lemma =>
    clear HT3 HE3 HF3 HS1
    obtain ⟨rfl, hH⟩ := hcut
    obtain ⟨V3, hV⟩ : ∃ V, V = wc := ⟨_, rfl⟩
    subst hV
    have HT := Lib.hid hH.out.1
    have HF := Lib.hid hH.out.2.1
    have HE := Lib.hid hH.out.2.2
    clear hH
    obtain ⟨y3, u3, o3, c3, a3, g3, h3, hS⟩ := pick_same N f n code at_ HBA.out hn
    obtain ⟨lim, hlim⟩ : ∃ l, decide (1 ≤ N ∧ N ≤ 1000000) = l := ⟨_, rfl⟩
    rw [hlim] at hS
    have HS1 := Lib.hid hS
    have CL := Lib.hid (limits_any lim code at_ b10 b7 n c A V3 HT.out.l7 HT.out.c7 HT.out.l10 HT.out.c10 HT.out.d10 c3 a3 hS.lims)
    have hways := ways2 hlim
    clear hlim hS
    go_upto_region 25 with fail
    go_cut [15, 16] from 26 (fun s15 s16 wx => s15 = .int .i64 0 ∧ s16 = .bool true ∧ Hid (Says w b7 b10 go n c A f code at_ wx ∧ Fault w b7 b10 go b13 c3 a3 wx ∧ Fault w b7 b10 go b19 g2 h2 wx))
    case first =>
      as_aux_lemma =>
        rcases hways with ⟨k1, k2, rfl⟩ | ⟨k1, rfl⟩ | ⟨k1, k2, rfl⟩
        all_goals
          go_wp2_with (go_at_call 42; refine CL.out.mono ?_; rintro e w5 ⟨rfl, hb5⟩; have r1 : w5.cell? ⟨b13, 0, none⟩ = some (.int .i64 c2) := (HF.out.below hb5).cell.cell 0; have r2 : w5.cell? ⟨b13, 1, none⟩ = some (.int .i64 a2) := (HF.out.below hb5).cell.cell 1; have r3 := (HF.out.below hb5).cell.frozen 0; have r4 := (HF.out.below hb5).cell.frozen 1)
          go_meet
          obtain ⟨t1, t2⟩ := says_set (HT.out.below hb5) (HF.out.below hb5) c3 a3
          exact ⟨rfl, rfl, t1, t2, (HE.out.below hb5).set hne c3 a3⟩
    case rest =>
    as_aux_lemma =>
    clear hways CL HT HF HE
    obtain ⟨rfl, rfl, hH⟩ := hcut
    obtain ⟨U3, hU⟩ : ∃ U, U = wc := ⟨_, rfl⟩
    subst hU
    have HT := Lib.hid hH.out.1
    have HF := Lib.hid hH.out.2.1
    have HE := Lib.hid hH.out.2.2
    clear hH
    have f13 : U3.cell? ⟨b13, 0, none⟩ = some (.int .i64 c3) := HF.out.cell.cell 0
    go_upto_if 155 with fail
    go_cut [15, 16, 20] from 26 (fun s15 s16 s20 wx => s15 = .int .i64 u3 ∧ s16 = .bool o3 ∧ s20 = .int .i64 y3 ∧ Hid (Says w b7 b10 go n c A f code at_ wx ∧ Fault w b7 b10 go b13 c3 a3 wx ∧ Fault w b7 b10 go b19 g2 h2 wx))
    case first =>
      as_aux_lemma =>
        by_cases hc1 : c3 = 0
        · have z1 : (c3 == 0) = true := by simpa using hc1
          have CD := Lib.hid (HS1.out.doc hc1 A c U3 hnc HT.out.row)
          have HNO := Lib.hid (HS1.out.none_.2 hc1)
          have q7 := HT.out.c7
          go_wp2_with fail
          refine CD.out.mono ?_
          rintro e w5 ⟨hb5, y0, u0, rfl, hyu⟩
          have HH5 := Lib.hid (And.intro (HT.out.below hb5) (And.intro (HF.out.below hb5) (HE.out.below hb5)))
          cases o3
          · obtain ⟨rfl, rfl⟩ := HNO.out rfl
            clear hyu HNO
            go_wp2_with fail
            go_meet
            exact ⟨rfl, rfl, rfl, HH5.out.1, HH5.out.2.1, HH5.out.2.2⟩
          · obtain ⟨rfl, rfl⟩ := hyu rfl
            clear hyu HNO
            go_wp2_with fail
            go_meet
            exact ⟨rfl, rfl, rfl, HH5.out.1, HH5.out.2.1, HH5.out.2.2⟩
        · have z1 : (c3 == 0) = false := by simpa using hc1
          obtain ⟨e1, e2, e3⟩ := HS1.out.none_.1 hc1
          subst e1 e2 e3
          go_wp2_with fail
          go_meet
          exact ⟨rfl, rfl, rfl, HT.out, HF.out, HE.out⟩
    case rest =>
    as_aux_lemma =>
    clear HT HF f13 HE
    obtain ⟨rfl, rfl, rfl, hH⟩ := hcut
    obtain ⟨X3, hX⟩ : ∃ X, X = wc := ⟨_, rfl⟩
    subst hX
    have HT := Lib.hid hH.out.1
    have HF := Lib.hid hH.out.2.1
    have HE := Lib.hid hH.out.2.2
    clear hH
    have CP := Lib.hid (HS1.out.pro (some ⟨go, 0, none⟩) (n + 3) X3 HT.out.ownRow)
    go_wp2_with fail
    refine CP.out.mono ?_
    rintro e w5 ⟨rfl, hb5⟩
    have r1 : w5.cell? ⟨b19, 0, none⟩ = some (.int .i64 g2) := (HE.out.below hb5).cell.cell 0
    have r2 : w5.cell? ⟨b19, 1, none⟩ = some (.int .i64 h2) := (HE.out.below hb5).cell.cell 1
    have r3 := (HE.out.below hb5).cell.frozen 0
    have r4 := (HE.out.below hb5).cell.frozen 1
    obtain ⟨t1, t2⟩ := says_set (HT.out.below hb5) (HE.out.below hb5) g3 h3
    have t3 := (HF.out.below hb5).set hne.symm g3 h3
    have HT3 := Lib.hid t1
    have HE3 := Lib.hid t2
    have HF3 := Lib.hid t3
    clear t1 t2 t3 hb5 HT HF HE CP
    go_upto_region 32 with fail
    clear r1 r2 r3 r4
    obtain ⟨W3, hW⟩ : ∃ W, W = putFault w5 b19 g3 h3 := ⟨_, rfl⟩
    rw [← hW] at HT3 HE3 HF3
    change Code.wp _ _ _ _ (putFault w5 b19 g3 h3)
    rw [← hW]
    clear hW
    go_cut [187] from 26 (fun s187 wx => s187 = .bool false ∧ Hid (Says w b7 b10 go n c A f code at_ wx ∧ Fault w b7 b10 go b13 c3 a3 wx ∧ Fault w b7 b10 go b19 g3 h3 wx))
    case first =>
      as_aux_lemma =>
        have hd := (Below.refl W3.heap.size W3).drew
        have HTd := Lib.hid (HT3.out.below hd)
        have HEd := Lib.hid (HE3.out.below hd)
        have HFd := Lib.hid (HF3.out.below hd)
        have CS := Lib.hid (short_any o3 c3 a3 b7 n c A W3.drew HTd.out.l7 HTd.out.c7 g3 h3 HS1.out.shorts)
        have HF0 := Lib.hid (FourCells.of HEd.out HFd.out)
        have F1 := Lib.hid (fun w6 (hb6 : Below W3.drew.heap.size W3.drew w6) => FourCells.of (HEd.out.below hb6) (HFd.out.below hb6))
        have zy : (y3 != y3) = false := by simp
        have zu : (u3 != u3) = false := by simp
        clear hd
        go_region_held3 (fun w' => w'.cell? ⟨b19, 0, none⟩ = some (.int .i64 g3) ∧ w'.cell? ⟨b19, 1, none⟩ = some (.int .i64 h3) ∧ w'.cell? ⟨b13, 0, none⟩ = some (.int .i64 c3) ∧ w'.cell? ⟨b13, 1, none⟩ = some (.int .i64 a3)) (first | exact HF0.out | exact F1.out _ hb6) (first
          | (go_at_call 40; refine CS.out.mono ?_; rintro e w6 ⟨rfl, hb6⟩))
        go_wp2_with fail
        go_meet
        exact ⟨rfl, HTd.out.below hb6, HFd.out.below hb6, HEd.out.below hb6⟩
    case rest =>
    as_aux_lemma =>
    clear HT3 HE3 HF3 HS1
    obtain ⟨rfl, hH⟩ := hcut
    obtain ⟨V4, hV⟩ : ∃ V, V = wc := ⟨_, rfl⟩
    subst hV
    have HT := Lib.hid hH.out.1
    have HF := Lib.hid hH.out.2.1
    have HE := Lib.hid hH.out.2.2
    clear hH
    obtain ⟨s4, m4, u4, o4, c4, a4, g4, h4, hS⟩ := deck_same N f n code at_ HBA.out hn
    obtain ⟨lim, hlim⟩ : ∃ l, decide (0 ≤ N ∧ N ≤ 60) = l := ⟨_, rfl⟩
    rw [hlim] at hS
    have HS1 := Lib.hid hS
    have CL := Lib.hid (limits_any lim code at_ b10 b7 n c A V4 HT.out.l7 HT.out.c7 HT.out.l10 HT.out.c10 HT.out.d10 c4 a4 hS.lims)
    have hways := ways2 hlim
    clear hlim hS
    go_upto_region 34 with fail
    go_cut [15, 16] from 26 (fun s15 s16 wx => s15 = .int .i64 0 ∧ s16 = .bool true ∧ Hid (Says w b7 b10 go n c A f code at_ wx ∧ Fault w b7 b10 go b13 c4 a4 wx ∧ Fault w b7 b10 go b19 g3 h3 wx))
    case first =>
      as_aux_lemma =>
        rcases hways with ⟨k1, k2, rfl⟩ | ⟨k1, rfl⟩ | ⟨k1, k2, rfl⟩
        all_goals
          go_wp2_with (go_at_call 42; refine CL.out.mono ?_; rintro e w5 ⟨rfl, hb5⟩; have r1 : w5.cell? ⟨b13, 0, none⟩ = some (.int .i64 c3) := (HF.out.below hb5).cell.cell 0; have r2 : w5.cell? ⟨b13, 1, none⟩ = some (.int .i64 a3) := (HF.out.below hb5).cell.cell 1; have r3 := (HF.out.below hb5).cell.frozen 0; have r4 := (HF.out.below hb5).cell.frozen 1)
          go_meet
          obtain ⟨t1, t2⟩ := says_set (HT.out.below hb5) (HF.out.below hb5) c4 a4
          exact ⟨rfl, rfl, t1, t2, (HE.out.below hb5).set hne c4 a4⟩
    case rest =>
    as_aux_lemma =>
    clear hways CL HT HF HE
    obtain ⟨rfl, rfl, hH⟩ := hcut
    obtain ⟨U4, hU⟩ : ∃ U, U = wc := ⟨_, rfl⟩
    subst hU
    have HT := Lib.hid hH.out.1
    have HF := Lib.hid hH.out.2.1
    have HE := Lib.hid hH.out.2.2
    clear hH
    have f13 : U4.cell? ⟨b13, 0, none⟩ = some (.int .i64 c4) := HF.out.cell.cell 0
    go_upto_if 198 with fail
    go_cut [15, 16, 22] from 26 (fun s15 s16 s22 wx => ∃ A1 k1, s22 = .slice A1 m4 k1 ∧ s15 = .int .i64 u4 ∧ s16 = .bool o4 ∧ Hid (Says w b7 b10 go n c A f code at_ wx ∧ Fault w b7 b10 go b13 c4 a4 wx ∧ Fault w b7 b10 go b19 g3 h3 wx ∧ CRow wx A1 m4 s4))
    case first =>
      as_aux_lemma =>
        by_cases hc1 : c4 = 0
        · have z1 : (c4 == 0) = true := by simpa using hc1
          have CD := Lib.hid (HS1.out.doc hc1 A c U4 hnc HT.out.row)
          have HNO := Lib.hid (HS1.out.none_.2 hc1)
          have q7 := HT.out.c7
          go_wp2_with fail
          refine CD.out.mono ?_
          rintro e w5 ⟨hb5, A1, m1, k1, u0, rfl, hyu⟩
          have HH5 := Lib.hid (And.intro (HT.out.below hb5) (And.intro (HF.out.below hb5) (HE.out.below hb5)))
          cases o4
          · obtain ⟨rfl, rfl⟩ := HNO.out rfl
            clear hyu HNO
            go_wp2_with fail
            go_meet
            exact ⟨none, 0, rfl, rfl, rfl, HH5.out.1, HH5.out.2.1, HH5.out.2.2, crow_nil _ _ _⟩
          · obtain ⟨rfl, rfl, hr⟩ := hyu rfl
            have HCR := Lib.hid hr
            clear hyu HNO hr
            go_wp2_with fail
            go_meet
            exact ⟨A1, k1, rfl, rfl, rfl, HH5.out.1, HH5.out.2.1, HH5.out.2.2, HCR.out⟩
        · have z1 : (c4 == 0) = false := by simpa using hc1
          obtain ⟨e1, e2, e3⟩ := HS1.out.none_.1 hc1
          subst e1 e2 e3
          go_wp2_with fail
          go_meet
          exact ⟨none, 0, rfl, rfl, rfl, HT.out, HF.out, HE.out, crow_nil _ _ _⟩
    case rest =>
    as_aux_lemma =>
    clear HT HF f13 HE
    obtain ⟨A1, k1, rfl, rfl, rfl, hH⟩ := hcut
    obtain ⟨X4, hX⟩ : ∃ X, X = wc := ⟨_, rfl⟩
    subst hX
    have HT := Lib.hid hH.out.1
    have HF := Lib.hid hH.out.2.1
    have HE := Lib.hid hH.out.2.2.1
    have HC := Lib.hid hH.out.2.2.2
    clear hH
    have CP := Lib.hid (HS1.out.pro (some ⟨go, 0, none⟩) (n + 3) X4 HT.out.ownRow)
    go_wp2_with fail
    refine CP.out.mono ?_
    rintro e w5 ⟨hb5, A2, k2, rfl, hr2⟩
    have r1 : w5.cell? ⟨b19, 0, none⟩ = some (.int .i64 g3) := (HE.out.below hb5).cell.cell 0
    have r2 : w5.cell? ⟨b19, 1, none⟩ = some (.int .i64 h3) := (HE.out.below hb5).cell.cell 1
    have r3 := (HE.out.below hb5).cell.frozen 0
    have r4 := (HE.out.below hb5).cell.frozen 1
    obtain ⟨t1, t2⟩ := says_set (HT.out.below hb5) (HE.out.below hb5) g4 h4
    have t3 := (HF.out.below hb5).set hne.symm g4 h4
    have HC3 := Lib.hid ((HC.out.below hb5).put (HE.out.below hb5).cell g4 h4)
    have HD3 := Lib.hid (hr2.put (HE.out.below hb5).cell g4 h4)
    clear HC hr2
    have HT3 := Lib.hid t1
    have HE3 := Lib.hid t2
    have HF3 := Lib.hid t3
    clear t1 t2 t3 hb5 HT HF HE CP
    go_upto_region 41 with fail
    clear r1 r2 r3 r4
    obtain ⟨W4, hW⟩ : ∃ W, W = putFault w5 b19 g4 h4 := ⟨_, rfl⟩
    rw [← hW] at HC3 HD3 HT3 HE3 HF3
    change Code.wp _ _ _ _ (putFault w5 b19 g4 h4)
    rw [← hW]
    clear hW
    go_cut [231] from 26 (fun s231 wx => s231 = .bool false ∧ Hid (Says w b7 b10 go n c A f code at_ wx ∧ Fault w b7 b10 go b13 c4 a4 wx ∧ Fault w b7 b10 go b19 g4 h4 wx))
    case first =>
      as_aux_lemma =>
        have hd := (Below.refl W4.heap.size W4).drew
        have HTd := Lib.hid (HT3.out.below hd)
        have HEd := Lib.hid (HE3.out.below hd)
        have HFd := Lib.hid (HF3.out.below hd)
        have CS := Lib.hid (short_any o4 c4 a4 b7 n c A W4.drew HTd.out.l7 HTd.out.c7 g4 h4 HS1.out.shorts)
        have HF0 := Lib.hid (FourCells.of HEd.out HFd.out)
        have F1 := Lib.hid (fun w6 (hb6 : Below W4.drew.heap.size W4.drew w6) => FourCells.of (HEd.out.below hb6) (HFd.out.below hb6))
        have C49 := Lib.hid (fun w6 (hb6 : Below W4.drew.heap.size W4.drew w6) => lists_same m4 k1 k2 A1 A2 s4 w6 ((HC3.out.below hd).below hb6).row ((HD3.out.below hd).below hb6).row (Nat.le_trans HS1.out.small (by omega)))
        have zu : (u4 != u4) = false := by simp
        clear hd
        go_region_held3 (fun w' => w'.cell? ⟨b19, 0, none⟩ = some (.int .i64 g4) ∧ w'.cell? ⟨b19, 1, none⟩ = some (.int .i64 h4) ∧ w'.cell? ⟨b13, 0, none⟩ = some (.int .i64 c4) ∧ w'.cell? ⟨b13, 1, none⟩ = some (.int .i64 a4)) (first | exact HF0.out | exact F1.out _ hb7 | exact F1.out _ hb6) (first
          | (go_at_call 40; refine CS.out.mono ?_; rintro e w6 ⟨rfl, hb6⟩) | (go_at_call 49; refine (C49.out _ hb6).mono ?_; rintro e w7 ⟨rfl, hb7⟩; have hb7 := hb6.trans (hb7.mono hb6.size)))
        go_wp2_with fail
        go_meet
        exact ⟨rfl, HTd.out.below hb7, HFd.out.below hb7, HEd.out.below hb7⟩
    case rest =>
    as_aux_lemma =>
    clear HT3 HE3 HF3 HS1 HC3 HD3
    obtain ⟨rfl, hH⟩ := hcut
    obtain ⟨V5, hV⟩ : ∃ V, V = wc := ⟨_, rfl⟩
    subst hV
    have HT := Lib.hid hH.out.1
    have HF := Lib.hid hH.out.2.1
    have HE := Lib.hid hH.out.2.2
    clear hH
    obtain ⟨y5, u5, o5, g5, h5, hS⟩ := unit_same f n code at_ HBA.out hn
    have HS1 := Lib.hid hS
    clear hS
    have f13 := HT.out.c10
    go_upto_if 234 with fail
    go_cut [15, 16, 24] from 26 (fun s15 s16 s24 wx => s15 = .int .i64 u5 ∧ s16 = .bool o5 ∧ s24 = .float .f64 y5 ∧ Hid (Says w b7 b10 go n c A f code at_ wx ∧ Fault w b7 b10 go b13 c4 a4 wx ∧ Fault w b7 b10 go b19 g4 h4 wx))
    case first =>
      as_aux_lemma =>
        by_cases hc1 : code = 0
        · have z1 : (code == 0) = true := by simpa using hc1
          have CD := Lib.hid (HS1.out.doc hc1 A c V5 hnc HT.out.row)
          have HNO := Lib.hid (HS1.out.none_.2 hc1)
          have q7 := HT.out.c7
          go_wp2_with fail
          refine CD.out.mono ?_
          rintro e w5 ⟨hb5, y0, u0, rfl, hyu⟩
          have HH5 := Lib.hid (And.intro (HT.out.below hb5) (And.intro (HF.out.below hb5) (HE.out.below hb5)))
          cases o5
          · obtain ⟨rfl, rfl⟩ := HNO.out rfl
            clear hyu HNO
            go_wp2_with fail
            go_meet
            exact ⟨rfl, rfl, rfl, HH5.out.1, HH5.out.2.1, HH5.out.2.2⟩
          · obtain ⟨rfl, rfl⟩ := hyu rfl
            clear hyu HNO
            go_wp2_with fail
            go_meet
            exact ⟨rfl, rfl, rfl, HH5.out.1, HH5.out.2.1, HH5.out.2.2⟩
        · have z1 : (code == 0) = false := by simpa using hc1
          obtain ⟨e1, e2, e3⟩ := HS1.out.none_.1 hc1
          subst e1 e2 e3
          go_wp2_with fail
          go_meet
          exact ⟨rfl, rfl, rfl, HT.out, HF.out, HE.out⟩
    case rest =>
    as_aux_lemma =>
    clear HT HF f13 HE
    obtain ⟨rfl, rfl, rfl, hH⟩ := hcut
    obtain ⟨X5, hX⟩ : ∃ X, X = wc := ⟨_, rfl⟩
    subst hX
    have HT := Lib.hid hH.out.1
    have HF := Lib.hid hH.out.2.1
    have HE := Lib.hid hH.out.2.2
    clear hH
    have CP := Lib.hid (HS1.out.pro (some ⟨go, 0, none⟩) (n + 3) X5 HT.out.glob HT.out.ownRow)
    go_wp2_with fail
    refine CP.out.mono ?_
    rintro e w5 ⟨rfl, hb5⟩
    have r1 : w5.cell? ⟨b19, 0, none⟩ = some (.int .i64 g4) := (HE.out.below hb5).cell.cell 0
    have r2 : w5.cell? ⟨b19, 1, none⟩ = some (.int .i64 h4) := (HE.out.below hb5).cell.cell 1
    have r3 := (HE.out.below hb5).cell.frozen 0
    have r4 := (HE.out.below hb5).cell.frozen 1
    obtain ⟨t1, t2⟩ := says_set (HT.out.below hb5) (HE.out.below hb5) g5 h5
    have t3 := (HF.out.below hb5).set hne.symm g5 h5
    have HT3 := Lib.hid t1
    have HE3 := Lib.hid t2
    have HF3 := Lib.hid t3
    clear t1 t2 t3 hb5 HT HF HE CP
    go_upto_region 50 with fail
    clear r1 r2 r3 r4
    obtain ⟨W5, hW⟩ : ∃ W, W = putFault w5 b19 g5 h5 := ⟨_, rfl⟩
    rw [← hW] at HT3 HE3 HF3
    change Code.wp _ _ _ _ (putFault w5 b19 g5 h5)
    rw [← hW]
    clear hW
    have hd := (Below.refl W5.heap.size W5).drew
    have HTd := Lib.hid (HT3.out.below hd)
    have HEd := Lib.hid (HE3.out.below hd)
    have CS := Lib.hid (short_any o5 code at_ b7 n c A W5.drew HTd.out.l7 HTd.out.c7 g5 h5 HS1.out.shorts)
    have HF0 := Lib.hid (FiveCells.of HEd.out HTd.out)
    have F1 := Lib.hid (fun w6 (hb6 : Below W5.drew.heap.size W5.drew w6) => FiveCells.of (HEd.out.below hb6) (HTd.out.below hb6))
    have C53 := Lib.hid (fun w6 => floats_same y5 w6 (Nat.lt_trans HS1.out.fin (by omega)) (nan_fin HS1.out.fin))
    have C54 := Lib.hid (fun w6 (hb6 : Below W5.drew.heap.size W5.drew w6) => still_same n c go A f w6 hn (HTd.out.below hb6).own (HTd.out.below hb6).row)
    have zu : (u5 == u5) = true := by simp
    clear hd
    go_region_held3 (fun w' => w'.cell? ⟨b19, 0, none⟩ = some (.int .i64 g5) ∧ w'.cell? ⟨b19, 1, none⟩ = some (.int .i64 h5) ∧ w'.cell? ⟨b10, 0, none⟩ = some (.int .i64 code) ∧ w'.cell? ⟨b10, 1, none⟩ = some (.int .i64 at_) ∧ w'.cell? ⟨b7, 0, none⟩ = some (.slice A n c)) (first | exact HF0.out | exact F1.out _ hb6) (first
      | (go_at_call 40; refine CS.out.mono ?_; rintro e w6 ⟨rfl, hb6⟩) | (go_at_call 53; refine (C53.out _).mono ?_; rintro e w7 ⟨rfl, rfl⟩) | (go_at_call 54; refine (C54.out _ hb6).mono ?_; rintro e w8 ⟨rfl, rfl⟩))
    go_wp2_with fail
    go_ret
    exact ⟨rfl, (HTd.out.below hb6).be⟩
  · have hnI : (3000 : Int) < (n : Int) := by omega
    go_wp2_with fail
    go_ret
    exact ⟨rfl, HB02.out⟩
end Go.Proofs.YtjjfkidddjcdcaaDoor
