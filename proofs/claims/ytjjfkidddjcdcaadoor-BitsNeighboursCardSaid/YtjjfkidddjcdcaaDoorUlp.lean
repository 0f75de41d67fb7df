/- Proved here: contracts of the program's Ulp and of the document's UlpOf at this program: the same word. Conditions: a word of 64 bits; the listed variable holds what is laid. -/
import Derived.Test.YtjjfkidddjcdcaaDoorNear
namespace Go.Proofs.YtjjfkidddjcdcaaDoor
open Go.ChangeShapes Go.WideShapes Go.ChangeAt Go.RowKit

def ulpS (b : Nat) : Nat := if expo b = 2047 then 0 else makeW false 1 (max (expo b : Int) 1 - 1075)

theorem ulp_any (b : Nat) (hb : b < 18446744073709551616) (w : World) (hG : Glob w) :
    Calls Tryd.prog 34 #[.float .f64 b] w fun e w' => e = .returned (.float .f64 (ulpS b)) ∧ Below w.heap.size w w' := by
  have C := Lib.hid (fun w => split_any b hb w)
  have hx : expo b ≤ 2047 := by unfold expo; omega
  have HU : Hid (ulpS b = if expo b = 2047 then 0 else makeW false 1 (max (expo b : Int) 1 - 1075)) := rfl
  generalize ulpS b = u at *
  generalize expo b = x at *
  by_cases h : x = 2047
  · obtain rfl : u = 0 := by rw [HU.out, if_pos h]
    subst h
    clear HU
    go_enter Tryd.func34, Tryd.ntmps34
    go_wp2_with (go_at_call 13; refine (C.out _).mono ?_; rintro e w2 ⟨rfl, rfl⟩)
    go_ret
    exact ⟨rfl, Below.refl _ _⟩
  · have hu : u = makeW false 1 (max (x : Int) 1 - 1075) := by rw [HU.out, if_neg h]
    have C23 := Lib.hid (fun w (hG : Glob w) => make_any 1 (max (x : Int) 1 - 1075) (by omega) (by omega) w hG.g0 hG.g1 hG.sz)
    rw [show decide ((1 : Int) < 0) = false by decide, show (1 : Int).natAbs = 1 by decide, ← hu] at C23
    have z : ((x : Int) == 2047) = false := by simp; omega
    have HG := Lib.hid hG
    clear hu HU hG
    go_enter Tryd.func34, Tryd.ntmps34
    go_wp2_with (first | (go_at_call 13; refine (C.out _).mono ?_; rintro e w2 ⟨rfl, rfl⟩) | (go_at_call 23; refine (C23.out _ HG.out).mono ?_; rintro e w3 ⟨rfl, hb2⟩))
    go_ret
    exact ⟨rfl, hb2⟩

theorem ulp_least : makeW false 1 (-1074) = 1 := by decide +kernel

theorem ulp_big (b : Nat) (hb : b < 18446744073709551616) (h1 : ¬ PL.rung b < 9007199254740992) (h2 : PL.rung b < 9218868437227405312) : PL.rungOf Ieee.double (4503599627370496 + 0) (bigE b + (1023 : Nat) - 1075) = ulpS b := by
  obtain ⟨r1, r2, r3⟩ := rung_parts b hb
  have hE : bigE b = (expo b : Int) - 1075 := by unfold bigE; rw [if_neg (by omega)]
  unfold ulpS makeW
  rw [if_neg (by omega), hE]
  have hc : min (max (max (expo b : Int) 1 - 1075) (-5000)) 5000 = (expo b : Int) - 1075 := by omega
  rw [hc]
  simp only [Bool.false_eq_true, if_false, Nat.zero_add]
  have := PL.rung_val Ieee.double 1 ((expo b : Int) - 1075) 52
  rw [show (1 : Nat) <<< 52 = 4503599627370496 + 0 by decide] at this
  rw [show PL.fmt 11 52 = Ieee.double from rfl, ← this]
  congr 1
  omega

theorem ulpof_any (b : Nat) (hb : b < 18446744073709551616) (w : World) :
    Calls Tryd.prog 35 #[.float .f64 b] w fun e w' => e = .returned (.float .f64 (ulpS b)) ∧ w' = w := by
  obtain ⟨r1, r2, r3⟩ := rung_parts b hb
  have C20 := Lib.hid (fun w => finite_any b hb w)
  have C62 := Lib.hid (fun w => abs_any b hb w)
  by_cases hfin : PL.rung b < 9218868437227405312
  · have hf : (!nanB b && !infB b) = true := by
      unfold nanB infB
      rw [decide_eq_false (by omega), decide_eq_false (by omega)]; rfl
    rw [hf] at C20
    have hlt := lt_core b 9007199254740992 (by omega) (by unfold PL.isNaN; omega)
    have hlt' : (FloatKind.f64.format.order (PL.rung b) 9007199254740992 == some .lt) = decide (PL.rung b < 9007199254740992) := hlt
    clear hlt
    by_cases hs : PL.rung b < 9007199254740992
    · have hu : ulpS b = 1 := by
        unfold ulpS
        have hm : max (expo b : Int) 1 - 1075 = -1074 := by omega
        rw [if_neg (by omega), hm]
        exact ulp_least
      rw [decide_eq_true hs] at hlt'
      rw [hu]
      clear r1 r2 r3 hfin hs hu
      generalize PL.rung b = r at *
      go_enter Tryd.func35, Tryd.ntmps35
      go_wp2_with (first | (go_at_call 20; refine (C20.out _).mono ?_; rintro e w2 ⟨rfl, rfl⟩) | (go_at_call 62; refine (C62.out _).mono ?_; rintro e w2 ⟨rfl, rfl⟩))
      go_ret
      exact ⟨rfl, rfl⟩
    · have hE : bigE b = (expo b : Int) - 1075 := by unfold bigE; rw [if_neg (by omega)]
      have hu := ulp_big b hb hs hfin
      have C65 := Lib.hid (fun w => frexp_any b hb (by omega) hfin w)
      have C85 := Lib.hid (fun w => ldexp_any 1023 0 (bigE b) (by omega) (by omega) (by omega) (by omega) (by omega) 4607182418800017408 (by omega) w)
      rw [hu] at C85
      rw [decide_eq_false hs] at hlt'
      have hEb : -2000 ≤ bigE b ∧ bigE b ≤ 2000 := by omega
      obtain ⟨eb1, eb2⟩ := hEb
      clear r1 r2 r3 hfin hs hu hE
      generalize ulpS b = u at *
      generalize bigE b = E at *
      generalize PL.rung b = r at *
      go_enter Tryd.func35, Tryd.ntmps35
      go_wp2_with (first | (go_at_call 20; refine (C20.out _).mono ?_; rintro e w2 ⟨rfl, rfl⟩) | (go_at_call 62; refine (C62.out _).mono ?_; rintro e w2 ⟨rfl, rfl⟩) | (go_at_call 65; refine (C65.out _).mono ?_; rintro e w2 ⟨rfl, rfl⟩) | (go_at_call 85; refine (C85.out _).mono ?_; rintro e w2 ⟨rfl, rfl⟩))
      go_ret
      exact ⟨rfl, rfl⟩
  · have hf : (!nanB b && !infB b) = false := by
      unfold nanB infB
      by_cases q : 9218868437227405312 < PL.rung b
      · rw [decide_eq_true q]; rfl
      · rw [decide_eq_false q, decide_eq_true (by omega)]; rfl
    rw [hf] at C20
    have hu : ulpS b = 0 := by unfold ulpS; rw [if_pos (by omega)]
    rw [hu]
    clear r1 r2 r3 hfin hu
    go_enter Tryd.func35, Tryd.ntmps35
    go_wp2_with (first | (go_at_call 20; refine (C20.out _).mono ?_; rintro e w2 ⟨rfl, rfl⟩))
    go_ret
    exact ⟨rfl, rfl⟩
end Go.Proofs.YtjjfkidddjcdcaaDoor
