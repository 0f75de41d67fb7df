/- Proved here: contracts of package math's Cos and Sin at the 64 places of package wave's table, at this program. Conditions: as each theorem says. -/
import Derived.Test.YtgeebjfbcjhifaaDoorCos
import Derived.Test.YtgeebjfbcjhifaaDoorSin
namespace Go.Proofs.YtgeebjfbcjhifaaDoor
open Go.ChangeShapes Go.WideShapes Go.ChangeAt Go.RowKit

theorem opt_bind {α β : Type} {o : Option α} {g : α → Option β} {r : β} (h : o.bind g = some r) : ∃ x, o = some x ∧ g x = some r := bind_some h
/-- Is x a float that Cos and Sin take without more ado? -/
def okF (x : Nat) : Bool := decide (x < 9223372036854775808) && !(FloatKind.f64.format.order x x != some .eq) && !(FloatKind.f64.format.order x 9218868437227405311 == some .gt) && (FloatKind.f64.format.order x 4737786807993761792 == some .lt)
def okS (x : Nat) : Bool := !(FloatKind.f64.format.order x 0 == some .eq) && !(FloatKind.f64.format.order x 0 == some .lt)
def trigF (x : Nat) (sine : Bool) : Option Nat :=
  if okF x && (!sine || okS x) then (fm x 4608412980311869571).bind fun m => (floatToIntVal .f64 m .u64).bind fun j => if 0 ≤ j ∧ j ≤ 8 then (trigV x j.toNat sine).bind fun r => some (if trigN j.toNat sine then Op.negFloat .f64 r else r) else none else none

set_option maxRecDepth 100000 in
theorem cos_any (x r : Nat) (w : World) (hS : Sincos w) (h : trigF x false = some r) : Calls Tryd.prog 48 #[.float .f64 x] w fun e w' => e = .returned (.float .f64 r) ∧ w' = w := by
  unfold trigF at h
  split at h
  case isFalse => cases h
  case isTrue hok =>
  obtain ⟨m, hm, h⟩ := opt_bind h
  obtain ⟨j, hj, h⟩ := opt_bind h
  split at h
  case isFalse => cases h
  case isTrue hjb =>
  obtain ⟨v, hv, h⟩ := opt_bind h
  injection h with h
  unfold okF at hok
  simp only [Bool.and_eq_true, decide_eq_true_eq, Bool.not_eq_true', beq_iff_eq, Bool.not_false, Bool.true_or, and_true] at hok
  obtain ⟨⟨⟨hx, o1⟩, o2⟩, o3⟩ := hok
  unfold trigV at hv
  obtain ⟨z, hz, hv⟩ := opt_bind hv
  obtain ⟨zz, hzz, hv⟩ := opt_bind hv
  unfold redZ at hz
  obtain ⟨a1, e1, hz1⟩ := opt_bind hz
  obtain ⟨a2, e2, hz2⟩ := opt_bind hz1
  obtain ⟨a3, e3, hz3⟩ := opt_bind hz2
  obtain ⟨a4, e4, hz4⟩ := opt_bind hz3
  obtain ⟨a5, e5, hz5⟩ := opt_bind hz4
  obtain ⟨n, rfl⟩ : ∃ n : Nat, j = n := ⟨j.toNat, by omega⟩
  rcases (show n = 0 ∨ n = 1 ∨ n = 2 ∨ n = 3 ∨ n = 4 ∨ n = 5 ∨ n = 6 ∨ n = 7 ∨ n = 8 by omega) with rfl | rfl | rfl | rfl | rfl | rfl | rfl | rfl | rfl
  · obtain rfl : v = r := h
    have hv : polyC zz = some v := hv
    unfold polyC at hv
    obtain ⟨b1, hb1, hv⟩ := opt_bind hv
    obtain ⟨b2, hb2, hv⟩ := opt_bind hv
    obtain ⟨q, hq, hv⟩ := opt_bind hv
    obtain ⟨p1, hp1, hv⟩ := opt_bind hv
    obtain ⟨p2, hp2, hv⟩ := opt_bind hv
    obtain ⟨p3, hp3, hv⟩ := opt_bind hv
    obtain ⟨p4, hp4, hv⟩ := opt_bind hv
    obtain ⟨p5, hp5, hv⟩ := opt_bind hv
    obtain ⟨p6, hp6, hv⟩ := opt_bind hv
    obtain ⟨p7, hp7, hv⟩ := opt_bind hv
    obtain ⟨p8, hp8, hv⟩ := opt_bind hv
    obtain ⟨p9, hp9, hv⟩ := opt_bind hv
    obtain ⟨p10, hp10, hv⟩ := opt_bind hv
    obtain ⟨p11, hp11, hv⟩ := opt_bind hv
    exact cos_at0 x m a1 a2 a3 a4 a5 z zz b1 b2 q p1 p2 p3 p4 p5 p6 p7 p8 p9 p10 p11 v w hS hx o1 o2 o3 hm hj e1 e2 e3 e4 e5 hz5 hzz hb1 hb2 hq hp1 hp2 hp3 hp4 hp5 hp6 hp7 hp8 hp9 hp10 hp11 hv
  · obtain rfl : Op.negFloat .f64 v = r := h
    have hv : polyS z zz = some v := hv
    unfold polyS at hv
    obtain ⟨q, hq, hv⟩ := opt_bind hv
    obtain ⟨p1, hp1, hv⟩ := opt_bind hv
    obtain ⟨p2, hp2, hv⟩ := opt_bind hv
    obtain ⟨p3, hp3, hv⟩ := opt_bind hv
    obtain ⟨p4, hp4, hv⟩ := opt_bind hv
    obtain ⟨p5, hp5, hv⟩ := opt_bind hv
    obtain ⟨p6, hp6, hv⟩ := opt_bind hv
    obtain ⟨p7, hp7, hv⟩ := opt_bind hv
    obtain ⟨p8, hp8, hv⟩ := opt_bind hv
    obtain ⟨p9, hp9, hv⟩ := opt_bind hv
    obtain ⟨p10, hp10, hv⟩ := opt_bind hv
    obtain ⟨p11, hp11, hv⟩ := opt_bind hv
    exact cos_at1 x m a1 a2 a3 a4 a5 z zz q p1 p2 p3 p4 p5 p6 p7 p8 p9 p10 p11 v w hS hx o1 o2 o3 hm hj e1 e2 e3 e4 e5 hz5 hzz hq hp1 hp2 hp3 hp4 hp5 hp6 hp7 hp8 hp9 hp10 hp11 hv
  · obtain rfl : Op.negFloat .f64 v = r := h
    have hv : polyS z zz = some v := hv
    unfold polyS at hv
    obtain ⟨q, hq, hv⟩ := opt_bind hv
    obtain ⟨p1, hp1, hv⟩ := opt_bind hv
    obtain ⟨p2, hp2, hv⟩ := opt_bind hv
    obtain ⟨p3, hp3, hv⟩ := opt_bind hv
    obtain ⟨p4, hp4, hv⟩ := opt_bind hv
    obtain ⟨p5, hp5, hv⟩ := opt_bind hv
    obtain ⟨p6, hp6, hv⟩ := opt_bind hv
    obtain ⟨p7, hp7, hv⟩ := opt_bind hv
    obtain ⟨p8, hp8, hv⟩ := opt_bind hv
    obtain ⟨p9, hp9, hv⟩ := opt_bind hv
    obtain ⟨p10, hp10, hv⟩ := opt_bind hv
    obtain ⟨p11, hp11, hv⟩ := opt_bind hv
    exact cos_at2 x m a1 a2 a3 a4 a5 z zz q p1 p2 p3 p4 p5 p6 p7 p8 p9 p10 p11 v w hS hx o1 o2 o3 hm hj e1 e2 e3 e4 e5 hz5 hzz hq hp1 hp2 hp3 hp4 hp5 hp6 hp7 hp8 hp9 hp10 hp11 hv
  · obtain rfl : Op.negFloat .f64 v = r := h
    have hv : polyC zz = some v := hv
    unfold polyC at hv
    obtain ⟨b1, hb1, hv⟩ := opt_bind hv
    obtain ⟨b2, hb2, hv⟩ := opt_bind hv
    obtain ⟨q, hq, hv⟩ := opt_bind hv
    obtain ⟨p1, hp1, hv⟩ := opt_bind hv
    obtain ⟨p2, hp2, hv⟩ := opt_bind hv
    obtain ⟨p3, hp3, hv⟩ := opt_bind hv
    obtain ⟨p4, hp4, hv⟩ := opt_bind hv
    obtain ⟨p5, hp5, hv⟩ := opt_bind hv
    obtain ⟨p6, hp6, hv⟩ := opt_bind hv
    obtain ⟨p7, hp7, hv⟩ := opt_bind hv
    obtain ⟨p8, hp8, hv⟩ := opt_bind hv
    obtain ⟨p9, hp9, hv⟩ := opt_bind hv
    obtain ⟨p10, hp10, hv⟩ := opt_bind hv
    obtain ⟨p11, hp11, hv⟩ := opt_bind hv
    exact cos_at3 x m a1 a2 a3 a4 a5 z zz b1 b2 q p1 p2 p3 p4 p5 p6 p7 p8 p9 p10 p11 v w hS hx o1 o2 o3 hm hj e1 e2 e3 e4 e5 hz5 hzz hb1 hb2 hq hp1 hp2 hp3 hp4 hp5 hp6 hp7 hp8 hp9 hp10 hp11 hv
  · obtain rfl : Op.negFloat .f64 v = r := h
    have hv : polyC zz = some v := hv
    unfold polyC at hv
    obtain ⟨b1, hb1, hv⟩ := opt_bind hv
    obtain ⟨b2, hb2, hv⟩ := opt_bind hv
    obtain ⟨q, hq, hv⟩ := opt_bind hv
    obtain ⟨p1, hp1, hv⟩ := opt_bind hv
    obtain ⟨p2, hp2, hv⟩ := opt_bind hv
    obtain ⟨p3, hp3, hv⟩ := opt_bind hv
    obtain ⟨p4, hp4, hv⟩ := opt_bind hv
    obtain ⟨p5, hp5, hv⟩ := opt_bind hv
    obtain ⟨p6, hp6, hv⟩ := opt_bind hv
    obtain ⟨p7, hp7, hv⟩ := opt_bind hv
    obtain ⟨p8, hp8, hv⟩ := opt_bind hv
    obtain ⟨p9, hp9, hv⟩ := opt_bind hv
    obtain ⟨p10, hp10, hv⟩ := opt_bind hv
    obtain ⟨p11, hp11, hv⟩ := opt_bind hv
    exact cos_at4 x m a1 a2 a3 a4 a5 z zz b1 b2 q p1 p2 p3 p4 p5 p6 p7 p8 p9 p10 p11 v w hS hx o1 o2 o3 hm hj e1 e2 e3 e4 e5 hz5 hzz hb1 hb2 hq hp1 hp2 hp3 hp4 hp5 hp6 hp7 hp8 hp9 hp10 hp11 hv
  · obtain rfl : v = r := h
    have hv : polyS z zz = some v := hv
    unfold polyS at hv
    obtain ⟨q, hq, hv⟩ := opt_bind hv
    obtain ⟨p1, hp1, hv⟩ := opt_bind hv
    obtain ⟨p2, hp2, hv⟩ := opt_bind hv
    obtain ⟨p3, hp3, hv⟩ := opt_bind hv
    obtain ⟨p4, hp4, hv⟩ := opt_bind hv
    obtain ⟨p5, hp5, hv⟩ := opt_bind hv
    obtain ⟨p6, hp6, hv⟩ := opt_bind hv
    obtain ⟨p7, hp7, hv⟩ := opt_bind hv
    obtain ⟨p8, hp8, hv⟩ := opt_bind hv
    obtain ⟨p9, hp9, hv⟩ := opt_bind hv
    obtain ⟨p10, hp10, hv⟩ := opt_bind hv
    obtain ⟨p11, hp11, hv⟩ := opt_bind hv
    exact cos_at5 x m a1 a2 a3 a4 a5 z zz q p1 p2 p3 p4 p5 p6 p7 p8 p9 p10 p11 v w hS hx o1 o2 o3 hm hj e1 e2 e3 e4 e5 hz5 hzz hq hp1 hp2 hp3 hp4 hp5 hp6 hp7 hp8 hp9 hp10 hp11 hv
  · obtain rfl : v = r := h
    have hv : polyS z zz = some v := hv
    unfold polyS at hv
    obtain ⟨q, hq, hv⟩ := opt_bind hv
    obtain ⟨p1, hp1, hv⟩ := opt_bind hv
    obtain ⟨p2, hp2, hv⟩ := opt_bind hv
    obtain ⟨p3, hp3, hv⟩ := opt_bind hv
    obtain ⟨p4, hp4, hv⟩ := opt_bind hv
    obtain ⟨p5, hp5, hv⟩ := opt_bind hv
    obtain ⟨p6, hp6, hv⟩ := opt_bind hv
    obtain ⟨p7, hp7, hv⟩ := opt_bind hv
    obtain ⟨p8, hp8, hv⟩ := opt_bind hv
    obtain ⟨p9, hp9, hv⟩ := opt_bind hv
    obtain ⟨p10, hp10, hv⟩ := opt_bind hv
    obtain ⟨p11, hp11, hv⟩ := opt_bind hv
    exact cos_at6 x m a1 a2 a3 a4 a5 z zz q p1 p2 p3 p4 p5 p6 p7 p8 p9 p10 p11 v w hS hx o1 o2 o3 hm hj e1 e2 e3 e4 e5 hz5 hzz hq hp1 hp2 hp3 hp4 hp5 hp6 hp7 hp8 hp9 hp10 hp11 hv
  · obtain rfl : v = r := h
    have hv : polyC zz = some v := hv
    unfold polyC at hv
    obtain ⟨b1, hb1, hv⟩ := opt_bind hv
    obtain ⟨b2, hb2, hv⟩ := opt_bind hv
    obtain ⟨q, hq, hv⟩ := opt_bind hv
    obtain ⟨p1, hp1, hv⟩ := opt_bind hv
    obtain ⟨p2, hp2, hv⟩ := opt_bind hv
    obtain ⟨p3, hp3, hv⟩ := opt_bind hv
    obtain ⟨p4, hp4, hv⟩ := opt_bind hv
    obtain ⟨p5, hp5, hv⟩ := opt_bind hv
    obtain ⟨p6, hp6, hv⟩ := opt_bind hv
    obtain ⟨p7, hp7, hv⟩ := opt_bind hv
    obtain ⟨p8, hp8, hv⟩ := opt_bind hv
    obtain ⟨p9, hp9, hv⟩ := opt_bind hv
    obtain ⟨p10, hp10, hv⟩ := opt_bind hv
    obtain ⟨p11, hp11, hv⟩ := opt_bind hv
    exact cos_at7 x m a1 a2 a3 a4 a5 z zz b1 b2 q p1 p2 p3 p4 p5 p6 p7 p8 p9 p10 p11 v w hS hx o1 o2 o3 hm hj e1 e2 e3 e4 e5 hz5 hzz hb1 hb2 hq hp1 hp2 hp3 hp4 hp5 hp6 hp7 hp8 hp9 hp10 hp11 hv
  · obtain rfl : v = r := h
    have hv : polyC zz = some v := hv
    unfold polyC at hv
    obtain ⟨b1, hb1, hv⟩ := opt_bind hv
    obtain ⟨b2, hb2, hv⟩ := opt_bind hv
    obtain ⟨q, hq, hv⟩ := opt_bind hv
    obtain ⟨p1, hp1, hv⟩ := opt_bind hv
    obtain ⟨p2, hp2, hv⟩ := opt_bind hv
    obtain ⟨p3, hp3, hv⟩ := opt_bind hv
    obtain ⟨p4, hp4, hv⟩ := opt_bind hv
    obtain ⟨p5, hp5, hv⟩ := opt_bind hv
    obtain ⟨p6, hp6, hv⟩ := opt_bind hv
    obtain ⟨p7, hp7, hv⟩ := opt_bind hv
    obtain ⟨p8, hp8, hv⟩ := opt_bind hv
    obtain ⟨p9, hp9, hv⟩ := opt_bind hv
    obtain ⟨p10, hp10, hv⟩ := opt_bind hv
    obtain ⟨p11, hp11, hv⟩ := opt_bind hv
    exact cos_at8 x m a1 a2 a3 a4 a5 z zz b1 b2 q p1 p2 p3 p4 p5 p6 p7 p8 p9 p10 p11 v w hS hx o1 o2 o3 hm hj e1 e2 e3 e4 e5 hz5 hzz hb1 hb2 hq hp1 hp2 hp3 hp4 hp5 hp6 hp7 hp8 hp9 hp10 hp11 hv

set_option maxRecDepth 100000 in
theorem sin_any (x r : Nat) (w : World) (hS : Sincos w) (h : trigF x true = some r) : Calls Tryd.prog 50 #[.float .f64 x] w fun e w' => e = .returned (.float .f64 r) ∧ w' = w := by
  unfold trigF at h
  split at h
  case isFalse => cases h
  case isTrue hok =>
  obtain ⟨m, hm, h⟩ := opt_bind h
  obtain ⟨j, hj, h⟩ := opt_bind h
  split at h
  case isFalse => cases h
  case isTrue hjb =>
  obtain ⟨v, hv, h⟩ := opt_bind h
  injection h with h
  unfold okF okS at hok
  simp only [Bool.and_eq_true, decide_eq_true_eq, Bool.not_eq_true', beq_iff_eq, Bool.not_true, Bool.false_or] at hok
  obtain ⟨⟨⟨⟨hx, o1⟩, o2⟩, o3⟩, ⟨o4, o5⟩⟩ := hok
  have hv' := hv
  unfold trigV at hv
  obtain ⟨z, hz, hv⟩ := opt_bind hv
  obtain ⟨zz, hzz, hv⟩ := opt_bind hv
  unfold redZ at hz
  obtain ⟨a1, e1, hz1⟩ := opt_bind hz
  obtain ⟨a2, e2, hz2⟩ := opt_bind hz1
  obtain ⟨a3, e3, hz3⟩ := opt_bind hz2
  obtain ⟨a4, e4, hz4⟩ := opt_bind hz3
  obtain ⟨a5, e5, hz5⟩ := opt_bind hz4
  clear hv'
  obtain ⟨n, rfl⟩ : ∃ n : Nat, j = n := ⟨j.toNat, by omega⟩
  rcases (show n = 0 ∨ n = 1 ∨ n = 2 ∨ n = 3 ∨ n = 4 ∨ n = 5 ∨ n = 6 ∨ n = 7 ∨ n = 8 by omega) with rfl | rfl | rfl | rfl | rfl | rfl | rfl | rfl | rfl
  · obtain rfl : v = r := h
    have hv : polyS z zz = some v := hv
    unfold polyS at hv
    obtain ⟨q, hq, hv⟩ := opt_bind hv
    obtain ⟨p1, hp1, hv⟩ := opt_bind hv
    obtain ⟨p2, hp2, hv⟩ := opt_bind hv
    obtain ⟨p3, hp3, hv⟩ := opt_bind hv
    obtain ⟨p4, hp4, hv⟩ := opt_bind hv
    obtain ⟨p5, hp5, hv⟩ := opt_bind hv
    obtain ⟨p6, hp6, hv⟩ := opt_bind hv
    obtain ⟨p7, hp7, hv⟩ := opt_bind hv
    obtain ⟨p8, hp8, hv⟩ := opt_bind hv
    obtain ⟨p9, hp9, hv⟩ := opt_bind hv
    obtain ⟨p10, hp10, hv⟩ := opt_bind hv
    obtain ⟨p11, hp11, hv⟩ := opt_bind hv
    exact sin_at0 x m a1 a2 a3 a4 a5 z zz q p1 p2 p3 p4 p5 p6 p7 p8 p9 p10 p11 v w hS hx o1 o2 o3 o4 o5 hm hj e1 e2 e3 e4 e5 hz5 hzz hq hp1 hp2 hp3 hp4 hp5 hp6 hp7 hp8 hp9 hp10 hp11 hv
  · obtain rfl : v = r := h
    have hv : polyC zz = some v := hv
    unfold polyC at hv
    obtain ⟨b1, hb1, hv⟩ := opt_bind hv
    obtain ⟨b2, hb2, hv⟩ := opt_bind hv
    obtain ⟨q, hq, hv⟩ := opt_bind hv
    obtain ⟨p1, hp1, hv⟩ := opt_bind hv
    obtain ⟨p2, hp2, hv⟩ := opt_bind hv
    obtain ⟨p3, hp3, hv⟩ := opt_bind hv
    obtain ⟨p4, hp4, hv⟩ := opt_bind hv
    obtain ⟨p5, hp5, hv⟩ := opt_bind hv
    obtain ⟨p6, hp6, hv⟩ := opt_bind hv
    obtain ⟨p7, hp7, hv⟩ := opt_bind hv
    obtain ⟨p8, hp8, hv⟩ := opt_bind hv
    obtain ⟨p9, hp9, hv⟩ := opt_bind hv
    obtain ⟨p10, hp10, hv⟩ := opt_bind hv
    obtain ⟨p11, hp11, hv⟩ := opt_bind hv
    exact sin_at1 x m a1 a2 a3 a4 a5 z zz b1 b2 q p1 p2 p3 p4 p5 p6 p7 p8 p9 p10 p11 v w hS hx o1 o2 o3 o4 o5 hm hj e1 e2 e3 e4 e5 hz5 hzz hb1 hb2 hq hp1 hp2 hp3 hp4 hp5 hp6 hp7 hp8 hp9 hp10 hp11 hv
  · obtain rfl : v = r := h
    have hv : polyC zz = some v := hv
    unfold polyC at hv
    obtain ⟨b1, hb1, hv⟩ := opt_bind hv
    obtain ⟨b2, hb2, hv⟩ := opt_bind hv
    obtain ⟨q, hq, hv⟩ := opt_bind hv
    obtain ⟨p1, hp1, hv⟩ := opt_bind hv
    obtain ⟨p2, hp2, hv⟩ := opt_bind hv
    obtain ⟨p3, hp3, hv⟩ := opt_bind hv
    obtain ⟨p4, hp4, hv⟩ := opt_bind hv
    obtain ⟨p5, hp5, hv⟩ := opt_bind hv
    obtain ⟨p6, hp6, hv⟩ := opt_bind hv
    obtain ⟨p7, hp7, hv⟩ := opt_bind hv
    obtain ⟨p8, hp8, hv⟩ := opt_bind hv
    obtain ⟨p9, hp9, hv⟩ := opt_bind hv
    obtain ⟨p10, hp10, hv⟩ := opt_bind hv
    obtain ⟨p11, hp11, hv⟩ := opt_bind hv
    exact sin_at2 x m a1 a2 a3 a4 a5 z zz b1 b2 q p1 p2 p3 p4 p5 p6 p7 p8 p9 p10 p11 v w hS hx o1 o2 o3 o4 o5 hm hj e1 e2 e3 e4 e5 hz5 hzz hb1 hb2 hq hp1 hp2 hp3 hp4 hp5 hp6 hp7 hp8 hp9 hp10 hp11 hv
  · obtain rfl : Op.negFloat .f64 v = r := h
    have hv : polyS z zz = some v := hv
    unfold polyS at hv
    obtain ⟨q, hq, hv⟩ := opt_bind hv
    obtain ⟨p1, hp1, hv⟩ := opt_bind hv
    obtain ⟨p2, hp2, hv⟩ := opt_bind hv
    obtain ⟨p3, hp3, hv⟩ := opt_bind hv
    obtain ⟨p4, hp4, hv⟩ := opt_bind hv
    obtain ⟨p5, hp5, hv⟩ := opt_bind hv
    obtain ⟨p6, hp6, hv⟩ := opt_bind hv
    obtain ⟨p7, hp7, hv⟩ := opt_bind hv
    obtain ⟨p8, hp8, hv⟩ := opt_bind hv
    obtain ⟨p9, hp9, hv⟩ := opt_bind hv
    obtain ⟨p10, hp10, hv⟩ := opt_bind hv
    obtain ⟨p11, hp11, hv⟩ := opt_bind hv
    exact sin_at3 x m a1 a2 a3 a4 a5 z zz q p1 p2 p3 p4 p5 p6 p7 p8 p9 p10 p11 v w hS hx o1 o2 o3 o4 o5 hm hj e1 e2 e3 e4 e5 hz5 hzz hq hp1 hp2 hp3 hp4 hp5 hp6 hp7 hp8 hp9 hp10 hp11 hv
  · obtain rfl : Op.negFloat .f64 v = r := h
    have hv : polyS z zz = some v := hv
    unfold polyS at hv
    obtain ⟨q, hq, hv⟩ := opt_bind hv
    obtain ⟨p1, hp1, hv⟩ := opt_bind hv
    obtain ⟨p2, hp2, hv⟩ := opt_bind hv
    obtain ⟨p3, hp3, hv⟩ := opt_bind hv
    obtain ⟨p4, hp4, hv⟩ := opt_bind hv
    obtain ⟨p5, hp5, hv⟩ := opt_bind hv
    obtain ⟨p6, hp6, hv⟩ := opt_bind hv
    obtain ⟨p7, hp7, hv⟩ := opt_bind hv
    obtain ⟨p8, hp8, hv⟩ := opt_bind hv
    obtain ⟨p9, hp9, hv⟩ := opt_bind hv
    obtain ⟨p10, hp10, hv⟩ := opt_bind hv
    obtain ⟨p11, hp11, hv⟩ := opt_bind hv
    exact sin_at4 x m a1 a2 a3 a4 a5 z zz q p1 p2 p3 p4 p5 p6 p7 p8 p9 p10 p11 v w hS hx o1 o2 o3 o4 o5 hm hj e1 e2 e3 e4 e5 hz5 hzz hq hp1 hp2 hp3 hp4 hp5 hp6 hp7 hp8 hp9 hp10 hp11 hv
  · obtain rfl : Op.negFloat .f64 v = r := h
    have hv : polyC zz = some v := hv
    unfold polyC at hv
    obtain ⟨b1, hb1, hv⟩ := opt_bind hv
    obtain ⟨b2, hb2, hv⟩ := opt_bind hv
    obtain ⟨q, hq, hv⟩ := opt_bind hv
    obtain ⟨p1, hp1, hv⟩ := opt_bind hv
    obtain ⟨p2, hp2, hv⟩ := opt_bind hv
    obtain ⟨p3, hp3, hv⟩ := opt_bind hv
    obtain ⟨p4, hp4, hv⟩ := opt_bind hv
    obtain ⟨p5, hp5, hv⟩ := opt_bind hv
    obtain ⟨p6, hp6, hv⟩ := opt_bind hv
    obtain ⟨p7, hp7, hv⟩ := opt_bind hv
    obtain ⟨p8, hp8, hv⟩ := opt_bind hv
    obtain ⟨p9, hp9, hv⟩ := opt_bind hv
    obtain ⟨p10, hp10, hv⟩ := opt_bind hv
    obtain ⟨p11, hp11, hv⟩ := opt_bind hv
    exact sin_at5 x m a1 a2 a3 a4 a5 z zz b1 b2 q p1 p2 p3 p4 p5 p6 p7 p8 p9 p10 p11 v w hS hx o1 o2 o3 o4 o5 hm hj e1 e2 e3 e4 e5 hz5 hzz hb1 hb2 hq hp1 hp2 hp3 hp4 hp5 hp6 hp7 hp8 hp9 hp10 hp11 hv
  · obtain rfl : Op.negFloat .f64 v = r := h
    have hv : polyC zz = some v := hv
    unfold polyC at hv
    obtain ⟨b1, hb1, hv⟩ := opt_bind hv
    obtain ⟨b2, hb2, hv⟩ := opt_bind hv
    obtain ⟨q, hq, hv⟩ := opt_bind hv
    obtain ⟨p1, hp1, hv⟩ := opt_bind hv
    obtain ⟨p2, hp2, hv⟩ := opt_bind hv
    obtain ⟨p3, hp3, hv⟩ := opt_bind hv
    obtain ⟨p4, hp4, hv⟩ := opt_bind hv
    obtain ⟨p5, hp5, hv⟩ := opt_bind hv
    obtain ⟨p6, hp6, hv⟩ := opt_bind hv
    obtain ⟨p7, hp7, hv⟩ := opt_bind hv
    obtain ⟨p8, hp8, hv⟩ := opt_bind hv
    obtain ⟨p9, hp9, hv⟩ := opt_bind hv
    obtain ⟨p10, hp10, hv⟩ := opt_bind hv
    obtain ⟨p11, hp11, hv⟩ := opt_bind hv
    exact sin_at6 x m a1 a2 a3 a4 a5 z zz b1 b2 q p1 p2 p3 p4 p5 p6 p7 p8 p9 p10 p11 v w hS hx o1 o2 o3 o4 o5 hm hj e1 e2 e3 e4 e5 hz5 hzz hb1 hb2 hq hp1 hp2 hp3 hp4 hp5 hp6 hp7 hp8 hp9 hp10 hp11 hv
  · obtain rfl : v = r := h
    have hv : polyS z zz = some v := hv
    unfold polyS at hv
    obtain ⟨q, hq, hv⟩ := opt_bind hv
    obtain ⟨p1, hp1, hv⟩ := opt_bind hv
    obtain ⟨p2, hp2, hv⟩ := opt_bind hv
    obtain ⟨p3, hp3, hv⟩ := opt_bind hv
    obtain ⟨p4, hp4, hv⟩ := opt_bind hv
    obtain ⟨p5, hp5, hv⟩ := opt_bind hv
    obtain ⟨p6, hp6, hv⟩ := opt_bind hv
    obtain ⟨p7, hp7, hv⟩ := opt_bind hv
    obtain ⟨p8, hp8, hv⟩ := opt_bind hv
    obtain ⟨p9, hp9, hv⟩ := opt_bind hv
    obtain ⟨p10, hp10, hv⟩ := opt_bind hv
    obtain ⟨p11, hp11, hv⟩ := opt_bind hv
    exact sin_at7 x m a1 a2 a3 a4 a5 z zz q p1 p2 p3 p4 p5 p6 p7 p8 p9 p10 p11 v w hS hx o1 o2 o3 o4 o5 hm hj e1 e2 e3 e4 e5 hz5 hzz hq hp1 hp2 hp3 hp4 hp5 hp6 hp7 hp8 hp9 hp10 hp11 hv
  · obtain rfl : v = r := h
    have hv : polyS z zz = some v := hv
    unfold polyS at hv
    obtain ⟨q, hq, hv⟩ := opt_bind hv
    obtain ⟨p1, hp1, hv⟩ := opt_bind hv
    obtain ⟨p2, hp2, hv⟩ := opt_bind hv
    obtain ⟨p3, hp3, hv⟩ := opt_bind hv
    obtain ⟨p4, hp4, hv⟩ := opt_bind hv
    obtain ⟨p5, hp5, hv⟩ := opt_bind hv
    obtain ⟨p6, hp6, hv⟩ := opt_bind hv
    obtain ⟨p7, hp7, hv⟩ := opt_bind hv
    obtain ⟨p8, hp8, hv⟩ := opt_bind hv
    obtain ⟨p9, hp9, hv⟩ := opt_bind hv
    obtain ⟨p10, hp10, hv⟩ := opt_bind hv
    obtain ⟨p11, hp11, hv⟩ := opt_bind hv
    exact sin_at8 x m a1 a2 a3 a4 a5 z zz q p1 p2 p3 p4 p5 p6 p7 p8 p9 p10 p11 v w hS hx o1 o2 o3 o4 o5 hm hj e1 e2 e3 e4 e5 hz5 hzz hq hp1 hp2 hp3 hp4 hp5 hp6 hp7 hp8 hp9 hp10 hp11 hv
end Go.Proofs.YtgeebjfbcjhifaaDoor
