/- Proved here: plain facts of transforms modulo a prime: what the loops of power, turned, wheel and modulo compute, that all numbers stay below the prime, and that each step is linear; no program in sight. Conditions: as each theorem says. -/
namespace Go.Proofs.YtgeebjfbcjhifaaDoor

def upd (s : Nat → Nat) (i x : Nat) : Nat → Nat := fun j => if j = i then x else s j
theorem upd_at (s : Nat → Nat) (i x : Nat) : upd s i x i = x := if_pos rfl
theorem upd_far (s : Nat → Nat) {i j : Nat} (x : Nat) (h : j ≠ i) : upd s i x j = s j := if_neg h

/-- The loop of power: fuel, r, a, n. -/
def pwL (p : Nat) : Nat → Nat → Nat → Nat → Nat
  | 0, r, _, _ => r
  | g + 1, r, a, n => if n = 0 then r else pwL p g (if n % 2 = 1 then r * a % p else r) (a * a % p) (n / 2)
def pw (a n p : Nat) : Nat := pwL p 63 1 a n
theorem pwL_lt (p : Nat) (hp : 0 < p) : ∀ (g r a n : Nat), r < p → pwL p g r a n < p
  | 0, _, _, _, h => h
  | g + 1, r, a, n, h => by
    unfold pwL
    split
    · exact h
    · refine pwL_lt p hp g _ _ _ ?_
      split
      · exact Nat.mod_lt _ hp
      · exact h
theorem pw_lt (a n p : Nat) (hp : 1 < p) : pw a n p < p := pwL_lt p (by omega) _ _ _ _ hp

/-- The root that wheel asks for. -/
def root (p : Nat) (back : Bool) (size k : Nat) : Nat := pw 3 ((p - 1) / size * (if back then (size - k) % size else k)) p
theorem root_lt (p : Nat) (hp : 1 < p) (back : Bool) (size k : Nat) : root p back size k < p := pw_lt _ _ _ hp

def bfly (p r x y : Nat) (s : Nat → Nat) : Nat → Nat := upd (upd s x ((s x + s y * r % p) % p)) y ((s x + p - s y * r % p) % p)
def kL (p : Nat) (back : Bool) (size at_ : Nat) : Nat → (Nat → Nat) → (Nat → Nat)
  | 0, s => s
  | k + 1, s => bfly p (root p back size k) (at_ + k) (at_ + k + size / 2) (kL p back size at_ k s)
def atL (p : Nat) (back : Bool) (size : Nat) : Nat → (Nat → Nat) → (Nat → Nat)
  | 0, s => s
  | i + 1, s => kL p back size (i * size) (size / 2) (atL p back size i s)
def szL (p : Nat) (back : Bool) (n : Nat) : Nat → (Nat → Nat) → (Nat → Nat)
  | 0, s => s
  | m + 1, s => atL p back (2 ^ (m + 1)) (n / 2 ^ (m + 1)) (szL p back n m s)
/-- The bits of i, the lowest lg of them, turned round. -/
def revB : Nat → Nat → Nat
  | 0, _ => 0
  | lg + 1, i => (i % 2) * 2 ^ lg + revB lg (i / 2)
def turnS (lg : Nat) (l : Nat → Nat) : Nat → (Nat → Nat)
  | 0 => fun _ => 0
  | i + 1 => upd (turnS lg l i) (revB lg i) (l i)
def wheelS (p : Nat) (back : Bool) (lg : Nat) (l : Nat → Nat) : Nat → Nat := szL p back (2 ^ lg) lg (turnS lg l (2 ^ lg))
def modS (p : Nat) (back : Bool) (lg : Nat) (l : Nat → Nat) : Nat → Nat :=
  if back then fun j => wheelS p back lg l j * pw (2 ^ lg) (p - 2) p % p else wheelS p back lg l

/-- All numbers are below p. -/
def Low (p : Nat) (s : Nat → Nat) : Prop := ∀ j, s j < p
theorem Low.upd {p : Nat} {s : Nat → Nat} (h : Low p s) (i : Nat) {x : Nat} (hx : x < p) : Low p (upd s i x) := fun j => by
  unfold YtgeebjfbcjhifaaDoor.upd
  split
  · exact hx
  · exact h j
theorem Low.bfly {p : Nat} {s : Nat → Nat} (hp : 0 < p) (h : Low p s) (r x y : Nat) : Low p (bfly p r x y s) := (h.upd x (Nat.mod_lt _ hp)).upd y (Nat.mod_lt _ hp)
theorem Low.kL {p : Nat} (hp : 0 < p) (back : Bool) (size at_ : Nat) : ∀ (k : Nat) {s : Nat → Nat}, Low p s → Low p (kL p back size at_ k s)
  | 0, _, h => h
  | k + 1, _, h => (Low.kL hp back size at_ k h).bfly hp _ _ _
theorem Low.atL {p : Nat} (hp : 0 < p) (back : Bool) (size : Nat) : ∀ (i : Nat) {s : Nat → Nat}, Low p s → Low p (atL p back size i s)
  | 0, _, h => h
  | i + 1, _, h => Low.kL hp back size _ _ (Low.atL hp back size i h)
theorem Low.szL {p : Nat} (hp : 0 < p) (back : Bool) (n : Nat) : ∀ (m : Nat) {s : Nat → Nat}, Low p s → Low p (szL p back n m s)
  | 0, _, h => h
  | m + 1, _, h => Low.atL hp back _ _ (Low.szL hp back n m h)
theorem Low.turnS {p : Nat} (hp : 0 < p) (lg : Nat) {l : Nat → Nat} (h : Low p l) : ∀ i, Low p (turnS lg l i)
  | 0 => fun _ => hp
  | i + 1 => (Low.turnS hp lg h i).upd _ (h i)
theorem Low.wheelS {p : Nat} (hp : 0 < p) (back : Bool) (lg : Nat) {l : Nat → Nat} (h : Low p l) : Low p (wheelS p back lg l) := Low.szL hp back _ _ (Low.turnS hp lg h _)
theorem Low.modS {p : Nat} (hp : 0 < p) (back : Bool) (lg : Nat) {l : Nat → Nat} (h : Low p l) : Low p (modS p back lg l) := by
  unfold YtgeebjfbcjhifaaDoor.modS
  split
  · exact fun j => Nat.mod_lt _ hp
  · exact Low.wheelS hp back lg h

/-! ### Linear -/
def sumTo (f : Nat → Int) : Nat → Int
  | 0 => 0
  | n + 1 => sumTo f n + f n
theorem sumTo_congr {f g : Nat → Int} : ∀ (n : Nat), (∀ j, j < n → f j = g j) → sumTo f n = sumTo g n
  | 0, _ => rfl
  | n + 1, h => by
    unfold sumTo
    rw [sumTo_congr n (fun j hj => h j (by omega)), h n (by omega)]
theorem sumTo_zero : ∀ (n : Nat), sumTo (fun _ => 0) n = 0
  | 0 => rfl
  | n + 1 => by unfold sumTo; rw [sumTo_zero n]; rfl
theorem sumTo_lin (f u v q : Nat → Int) (r p : Int) : ∀ n, sumTo (fun j => f j * (u j + r * v j - p * q j)) n = sumTo (fun j => f j * u j) n + r * sumTo (fun j => f j * v j) n - p * sumTo (fun j => f j * q j) n
  | 0 => by simp [sumTo]
  | n + 1 => by
    unfold sumTo
    rw [sumTo_lin f u v q r p n]
    grind
/-- Each number of s is, modulo p, the sum of a j times that of t j. -/
def Lin (p m : Nat) (a : Nat → Int) (s : Nat → Nat) (t : Nat → Nat → Nat) : Prop := ∀ k, ∃ q : Int, (s k : Int) = sumTo (fun j => a j * (t j k : Int)) m + (p : Int) * q
theorem Lin.upd {p m : Nat} {a : Nat → Int} {s : Nat → Nat} {t : Nat → Nat → Nat} (h : Lin p m a s t) (i x : Nat) (y : Nat → Nat) (hx : ∃ q : Int, (x : Int) = sumTo (fun j => a j * (y j : Int)) m + (p : Int) * q) :
    Lin p m a (upd s i x) (fun j => upd (t j) i (y j)) := fun k => by
  unfold YtgeebjfbcjhifaaDoor.upd
  by_cases e : k = i
  · simp only [e, if_true]; exact hx
  · simp only [e, if_false]; exact h k
theorem mod_eq (x p : Nat) : ((x % p : Nat) : Int) = (x : Int) - (p : Int) * ((x / p : Nat) : Int) := by
  have h := Nat.mod_add_div x p
  have h2 : ((x % p + p * (x / p) : Nat) : Int) = (x : Int) := by rw [h]
  rw [Int.natCast_add, Int.natCast_mul] at h2
  omega
theorem plus_eq (x y r p : Nat) : ∃ q : Int, (((x + y * r % p) % p : Nat) : Int) = (x : Int) + (r : Int) * (y : Int) - (p : Int) * q := by
  refine ⟨((y * r / p : Nat) : Int) + (((x + y * r % p) / p : Nat) : Int), ?_⟩
  have h1 := mod_eq (x + y * r % p) p
  have h2 := mod_eq (y * r) p
  rw [h1, Int.natCast_add, h2, Int.natCast_mul]
  grind
theorem minus_eq (x y r p : Nat) (hp : 0 < p) : ∃ q : Int, (((x + p - y * r % p) % p : Nat) : Int) = (x : Int) + (-(r : Int)) * (y : Int) - (p : Int) * q := by
  refine ⟨-((y * r / p : Nat) : Int) + (((x + p - y * r % p) / p : Nat) : Int) - 1, ?_⟩
  have h1 := mod_eq (x + p - y * r % p) p
  have h2 := mod_eq (y * r) p
  have h3 : y * r % p < p := Nat.mod_lt _ hp
  have h4 : ((x + p - y * r % p : Nat) : Int) = (x : Int) + (p : Int) - ((y * r % p : Nat) : Int) := by omega
  rw [h1, h4, h2, Int.natCast_mul]
  grind
theorem lin_part {p m : Nat} {a : Nat → Int} {s : Nat → Nat} {t : Nat → Nat → Nat} (h : Lin p m a s t) (x y : Nat) (r q1 : Int) (z : Int) (hz : z = (s x : Int) + r * (s y : Int) - (p : Int) * q1) (w : Nat → Int)
    (hw : ∀ j, ∃ q : Int, w j = (t j x : Int) + r * (t j y : Int) - (p : Int) * q) : ∃ q : Int, z = sumTo (fun j => a j * w j) m + (p : Int) * q := by
  have hq : ∃ q : Nat → Int, ∀ j, w j = (t j x : Int) + r * (t j y : Int) - (p : Int) * q j := ⟨fun j => (hw j).choose, fun j => (hw j).choose_spec⟩
  obtain ⟨q, hq⟩ := hq
  obtain ⟨qx, hx⟩ := h x
  obtain ⟨qy, hy⟩ := h y
  refine ⟨qx + r * qy - q1 + sumTo (fun j => a j * q j) m, ?_⟩
  rw [hz, hx, hy, show (fun j => a j * w j) = fun j => a j * ((t j x : Int) + r * (t j y : Int) - (p : Int) * q j) from funext fun j => by rw [hq j], sumTo_lin]
  grind
theorem Lin.bfly {p m : Nat} {a : Nat → Int} {s : Nat → Nat} {t : Nat → Nat → Nat} (hp : 0 < p) (h : Lin p m a s t) (r x y : Nat) : Lin p m a (bfly p r x y s) (fun j => bfly p r x y (t j)) := by
  unfold YtgeebjfbcjhifaaDoor.bfly
  refine Lin.upd (Lin.upd h x _ _ ?_) y _ _ ?_
  · obtain ⟨q1, e1⟩ := plus_eq (s x) (s y) r p
    exact lin_part h x y r q1 _ e1 (fun j => (((t j x + t j y * r % p) % p : Nat) : Int)) fun j => plus_eq (t j x) (t j y) r p
  · obtain ⟨q1, e1⟩ := minus_eq (s x) (s y) r p hp
    exact lin_part h x y (-(r : Int)) q1 _ e1 (fun j => (((t j x + p - t j y * r % p) % p : Nat) : Int)) fun j => minus_eq (t j x) (t j y) r p hp
theorem Lin.kL {p m : Nat} {a : Nat → Int} (hp : 0 < p) (back : Bool) (size at_ : Nat) : ∀ (k : Nat) {s : Nat → Nat} {t : Nat → Nat → Nat}, Lin p m a s t → Lin p m a (kL p back size at_ k s) (fun j => kL p back size at_ k (t j))
  | 0, _, _, h => h
  | k + 1, _, _, h => (Lin.kL hp back size at_ k h).bfly hp _ _ _
theorem Lin.atL {p m : Nat} {a : Nat → Int} (hp : 0 < p) (back : Bool) (size : Nat) : ∀ (i : Nat) {s : Nat → Nat} {t : Nat → Nat → Nat}, Lin p m a s t → Lin p m a (atL p back size i s) (fun j => atL p back size i (t j))
  | 0, _, _, h => h
  | i + 1, _, _, h => Lin.kL hp back size _ _ (Lin.atL hp back size i h)
theorem Lin.szL {p m : Nat} {a : Nat → Int} (hp : 0 < p) (back : Bool) (n : Nat) : ∀ (i : Nat) {s : Nat → Nat} {t : Nat → Nat → Nat}, Lin p m a s t → Lin p m a (szL p back n i s) (fun j => szL p back n i (t j))
  | 0, _, _, h => h
  | i + 1, _, _, h => Lin.atL hp back _ _ (Lin.szL hp back n i h)
theorem Lin.turnS {p m : Nat} {a : Nat → Int} (lg : Nat) {s : Nat → Nat} {t : Nat → Nat → Nat} (h : Lin p m a s t) : ∀ i, Lin p m a (turnS lg s i) (fun j => turnS lg (t j) i)
  | 0 => fun _ => ⟨0, by
      show (0 : Int) = sumTo (fun j => a j * 0) m + (p : Int) * 0
      rw [show (fun j => a j * (0 : Int)) = fun _ => 0 from funext fun j => Int.mul_zero _, sumTo_zero]
      simp⟩
  | i + 1 => (Lin.turnS lg h i).upd _ _ _ (h i)
theorem Lin.wheelS {p m : Nat} {a : Nat → Int} (hp : 0 < p) (back : Bool) (lg : Nat) {s : Nat → Nat} {t : Nat → Nat → Nat} (h : Lin p m a s t) : Lin p m a (wheelS p back lg s) (fun j => wheelS p back lg (t j)) :=
  Lin.szL hp back _ _ (Lin.turnS lg h _)
theorem Lin.modS {p m : Nat} {a : Nat → Int} (hp : 0 < p) (back : Bool) (lg : Nat) {s : Nat → Nat} {t : Nat → Nat → Nat} (h : Lin p m a s t) : Lin p m a (modS p back lg s) (fun j => modS p back lg (t j)) := by
  have hw := Lin.wheelS hp back lg h
  unfold YtgeebjfbcjhifaaDoor.modS
  cases back
  · exact hw
  · intro k
    simp only [if_true]
    generalize pw (2 ^ lg) (p - 2) p = r
    have key : ∀ x : Nat, ((x * r % p : Nat) : Int) = (0 : Int) + (r : Int) * (x : Int) - (p : Int) * ((x * r / p : Nat) : Int) := fun x => by
      rw [mod_eq, Int.natCast_mul]; grind
    obtain ⟨q, hq⟩ := hw k
    refine ⟨(r : Int) * q - ((YtgeebjfbcjhifaaDoor.wheelS p true lg s k * r / p : Nat) : Int) + sumTo (fun j => a j * ((YtgeebjfbcjhifaaDoor.wheelS p true lg (t j) k * r / p : Nat) : Int)) m, ?_⟩
    rw [key, hq, show (fun j => a j * ((YtgeebjfbcjhifaaDoor.wheelS p true lg (t j) k * r % p : Nat) : Int)) = fun j => a j * ((0 : Int) + (r : Int) * (YtgeebjfbcjhifaaDoor.wheelS p true lg (t j) k : Int) - (p : Int) * ((YtgeebjfbcjhifaaDoor.wheelS p true lg (t j) k * r / p : Nat) : Int)) from funext fun j => by rw [key],
      sumTo_lin a (fun _ => 0) (fun j => (YtgeebjfbcjhifaaDoor.wheelS p true lg (t j) k : Int)) (fun j => ((YtgeebjfbcjhifaaDoor.wheelS p true lg (t j) k * r / p : Nat) : Int)) r p m,
      show (fun j => a j * (0 : Int)) = fun _ => 0 from funext fun j => Int.mul_zero _, sumTo_zero]
    grind
end Go.Proofs.YtgeebjfbcjhifaaDoor
