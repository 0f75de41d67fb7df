/- Proved here: what the loops of a transform modulo 998244353 make of the unit rows, reckoned by the kernel; no program in sight. Conditions: as each theorem says. -/
import Derived.Test.YtgeebjfbcjhifaaDoorWavePlain
namespace Go.Proofs.YtgeebjfbcjhifaaDoor

/-! ### Rows as one number, 32 bits a place -/
def wv (s : Nat → Nat) : Nat → Nat
  | 0 => 0
  | n + 1 => wv s n + s n * 2 ^ (32 * n)
theorem wv_lt {s : Nat → Nat} : ∀ (n : Nat), (∀ j, j < n → s j < 2 ^ 32) → wv s n < 2 ^ (32 * n)
  | 0, _ => by simp [wv]
  | n + 1, h => by
    have h1 := wv_lt n (fun j hj => h j (by omega))
    have h2 := h n (by omega)
    unfold wv
    rw [show 32 * (n + 1) = 32 * n + 32 by omega, Nat.pow_add]
    have h3 : s n + 1 ≤ 2 ^ 32 := h2
    have h4 : (s n + 1) * 2 ^ (32 * n) ≤ 2 ^ 32 * 2 ^ (32 * n) := Nat.mul_le_mul_right _ h3
    rw [Nat.add_mul, Nat.one_mul, Nat.mul_comm (2 ^ 32)] at h4
    omega
def dig (v i : Nat) : Nat := v / 2 ^ (32 * i) % 2 ^ 32
theorem dig_wv {s : Nat → Nat} : ∀ (n i : Nat), (∀ j, j < n → s j < 2 ^ 32) → i < n → dig (wv s n) i = s i
  | 0, _, _, hi => absurd hi (by omega)
  | n + 1, i, h, hi => by
    have hl := wv_lt n (fun j hj => h j (by omega))
    unfold dig wv
    by_cases e : i = n
    · subst e
      rw [Nat.add_mul_div_right _ _ (Nat.pow_pos (by decide)), Nat.div_eq_of_lt hl, Nat.zero_add, Nat.mod_eq_of_lt (h i (by omega))]
    · obtain ⟨d, rfl⟩ : ∃ d, n = i + (d + 1) := ⟨n - i - 1, by omega⟩
      have ih := dig_wv (i + (d + 1)) i (fun j hj => h j (by omega)) (by omega)
      unfold dig at ih
      rw [show 32 * (i + (d + 1)) = (32 * d + 32) + 32 * i by omega, Nat.pow_add, ← Nat.mul_assoc, Nat.add_mul_div_right _ _ (Nat.pow_pos (by decide)), Nat.pow_add, ← Nat.mul_assoc, Nat.add_mul_mod_self_right]
      exact ih
theorem wv_upd {s : Nat → Nat} {i : Nat} (x : Nat) : ∀ (n : Nat), i < n → wv (upd s i x) n + s i * 2 ^ (32 * i) = wv s n + x * 2 ^ (32 * i)
  | 0, hi => absurd hi (by omega)
  | n + 1, hi => by
    unfold wv
    by_cases e : i = n
    · subst e
      rw [upd_at]
      have hsame : ∀ m, m ≤ i → wv (upd s i x) m = wv s m := by
        intro m
        induction m with
        | zero => intro _; rfl
        | succ m ih =>
          intro hm
          unfold wv
          rw [ih (by omega), upd_far s x (show m ≠ i by omega)]
      rw [hsame i (Nat.le_refl _)]
      omega
    · have ih := wv_upd (s := s) x n (show i < n by omega)
      rw [upd_far s x (show n ≠ i from fun h => e h.symm)]
      omega
theorem wv_ge {s : Nat → Nat} {i : Nat} : ∀ (n : Nat), i < n → s i * 2 ^ (32 * i) ≤ wv s n
  | 0, hi => absurd hi (by omega)
  | n + 1, hi => by
    unfold wv
    by_cases e : i = n
    · subst e; omega
    · have := wv_ge (s := s) n (show i < n by omega); omega
def updN (v i x : Nat) : Nat := v + x * 2 ^ (32 * i) - dig v i * 2 ^ (32 * i)
theorem updN_wv {s : Nat → Nat} {n i : Nat} (x : Nat) (h : ∀ j, j < n → s j < 2 ^ 32) (hi : i < n) : updN (wv s n) i x = wv (upd s i x) n := by
  unfold updN
  rw [dig_wv n i h hi]
  have := wv_upd (s := s) x n hi
  omega
theorem wv_inj {s t : Nat → Nat} {n : Nat} (hs : ∀ j, j < n → s j < 2 ^ 32) (ht : ∀ j, j < n → t j < 2 ^ 32) (h : wv s n = wv t n) (j : Nat) (hj : j < n) : s j = t j := by
  rw [← dig_wv n j hs hj, h, dig_wv n j ht hj]

/-! ### The loops on such numbers; each number is reckoned at once -/
def forceN {α : Type} (x : Nat) (k : Nat → α) : α := Nat.rec (k 0) (fun m _ => k (m + 1)) x
theorem forceN_eq {α : Type} (x : Nat) (k : Nat → α) : forceN x k = k x := by cases x <;> rfl
def bflyN (p r x y v : Nat) : Nat := forceN (dig v x) fun u => forceN (dig v y * r % p) fun w => forceN (updN v x ((u + w) % p)) fun v' => updN v' y ((u + p - w) % p)
def kN (p : Nat) (tab : List Nat) (half at_ : Nat) : Nat → Nat → Nat
  | 0, v => v
  | k + 1, v => forceN (kN p tab half at_ k v) fun v' => forceN (at_ + k) fun x => forceN (tab.getD k 0) fun r => bflyN p r x (x + half) v'
def atN (p : Nat) (tab : List Nat) (size : Nat) : Nat → Nat → Nat
  | 0, v => v
  | i + 1, v => forceN (atN p tab size i v) fun v' => forceN (i * size) fun a => kN p tab (size / 2) a (size / 2) v'
def szN (p : Nat) (tabs : List (List Nat)) (n : Nat) : Nat → Nat → Nat
  | 0, v => v
  | m + 1, v => forceN (szN p tabs n m v) fun v' => forceN (2 ^ (m + 1)) fun s => atN p (tabs.getD m []) s (n / s) v'
def turnN (lg v : Nat) : Nat → Nat
  | 0 => 0
  | i + 1 => forceN (turnN lg v i) fun o => forceN (revB lg i) fun r => updN o r (dig v i)
def scaleN (p r v : Nat) : Nat → Nat
  | 0 => 0
  | i + 1 => forceN (scaleN p r v i) fun o => o + dig v i * r % p * 2 ^ (32 * i)

theorem revB_lt : ∀ (lg i : Nat), revB lg i < 2 ^ lg
  | 0, _ => by simp [revB]
  | lg + 1, i => by
    have := revB_lt lg (i / 2)
    have h2 : i % 2 < 2 := Nat.mod_lt _ (by decide)
    unfold revB
    rw [Nat.pow_succ]
    rcases (show i % 2 = 0 ∨ i % 2 = 1 by omega) with e | e <;> rw [e] <;> omega
theorem low32 {p : Nat} (hp : p ≤ 2 ^ 32) {s : Nat → Nat} (h : Low p s) (n : Nat) : ∀ j, j < n → s j < 2 ^ 32 := fun j _ => Nat.lt_of_lt_of_le (h j) hp
theorem bflyN_wv {p : Nat} (hp : p ≤ 2 ^ 32) (hp0 : 0 < p) {s : Nat → Nat} (h : Low p s) {n x y : Nat} (hx : x < n) (hy : y < n) (r : Nat) : bflyN p r x y (wv s n) = wv (bfly p r x y s) n := by
  unfold bflyN
  simp only [forceN_eq]
  rw [dig_wv n x (low32 hp h n) hx, dig_wv n y (low32 hp h n) hy, updN_wv _ (low32 hp h n) hx, updN_wv _ (low32 hp (h.upd x (Nat.mod_lt _ hp0)) n) hy]
  rfl
theorem kN_wv {p : Nat} (hp : p ≤ 2 ^ 32) (hp0 : 0 < p) {back : Bool} {size at_ n : Nat} {tab : List Nat} (ht : ∀ k, k < size / 2 → root p back size k = tab.getD k 0) (hn : at_ + size ≤ n) :
    ∀ (k : Nat) {s : Nat → Nat}, Low p s → k ≤ size / 2 → kN p tab (size / 2) at_ k (wv s n) = wv (kL p back size at_ k s) n
  | 0, _, _, _ => rfl
  | k + 1, s, h, hk => by
    unfold kN
    simp only [forceN_eq]
    rw [kN_wv hp hp0 ht hn k h (by omega), bflyN_wv hp hp0 (Low.kL hp0 back size at_ k h) (by omega) (by omega), ← ht k (by omega)]
    rfl
theorem atN_wv {p : Nat} (hp : p ≤ 2 ^ 32) (hp0 : 0 < p) {back : Bool} {size n : Nat} {tab : List Nat} (ht : ∀ k, k < size / 2 → root p back size k = tab.getD k 0) :
    ∀ (i : Nat) {s : Nat → Nat}, Low p s → i * size ≤ n → atN p tab size i (wv s n) = wv (atL p back size i s) n
  | 0, _, _, _ => rfl
  | i + 1, s, h, hi => by
    rw [Nat.add_mul, Nat.one_mul] at hi
    unfold atN
    simp only [forceN_eq]
    rw [atN_wv hp hp0 ht i h (by omega), kN_wv hp hp0 ht hi (size / 2) (Low.atL hp0 back size i h) (Nat.le_refl _)]
    rfl
theorem szN_wv {p : Nat} (hp : p ≤ 2 ^ 32) (hp0 : 0 < p) {back : Bool} {n : Nat} {tabs : List (List Nat)} (ht : ∀ m, m < 6 → ∀ k, k < 2 ^ m → root p back (2 ^ (m + 1)) k = (tabs.getD m []).getD k 0) :
    ∀ (m : Nat) {s : Nat → Nat}, Low p s → m ≤ 6 → szN p tabs n m (wv s n) = wv (szL p back n m s) n
  | 0, _, _, _ => rfl
  | m + 1, s, h, hm => by
    unfold szN
    simp only [forceN_eq]
    rw [szN_wv hp hp0 ht m h (by omega), atN_wv hp hp0 (fun k hk => ht m (by omega) k (by rw [Nat.pow_succ, Nat.mul_div_cancel _ (by decide)] at hk; exact hk)) _ (Low.szL hp0 back n m h) (Nat.div_mul_le_self _ _)]
    rfl
theorem turnN_wv {p : Nat} (hp : p ≤ 2 ^ 32) (hp0 : 0 < p) {lg : Nat} {l : Nat → Nat} (h : Low p l) : ∀ (i : Nat), i ≤ 2 ^ lg → turnN lg (wv l (2 ^ lg)) i = wv (turnS lg l i) (2 ^ lg)
  | 0, _ => by
    have key : ∀ n, wv (fun _ => 0) n = 0 := fun n => by
      induction n with
      | zero => rfl
      | succ n ih => unfold wv; rw [ih]; simp
    exact (key _).symm
  | i + 1, hi => by
    unfold turnN
    simp only [forceN_eq]
    rw [turnN_wv hp hp0 h i (by omega), dig_wv _ i (low32 hp h _) (by omega), updN_wv _ (low32 hp (Low.turnS hp0 lg h i) _) (revB_lt lg i)]
    rfl
theorem scaleN_wv {p : Nat} (hp : p ≤ 2 ^ 32) (r : Nat) {s : Nat → Nat} {n : Nat} (h : Low p s) : ∀ (i : Nat), i ≤ n → scaleN p r (wv s n) i = wv (fun j => s j * r % p) i
  | 0, _ => rfl
  | i + 1, hi => by
    unfold scaleN
    simp only [forceN_eq]
    rw [scaleN_wv hp r h i (by omega), dig_wv n i (low32 hp h n) (by omega)]
    rfl
def wheelN (p : Nat) (tabs : List (List Nat)) (lg v : Nat) : Nat := forceN (turnN lg v (2 ^ lg)) fun v' => szN p tabs (2 ^ lg) lg v'
theorem wheelN_wv {p : Nat} (hp : p ≤ 2 ^ 32) (hp0 : 0 < p) {back : Bool} {lg : Nat} (hl : lg ≤ 6) {tabs : List (List Nat)} (ht : ∀ m, m < 6 → ∀ k, k < 2 ^ m → root p back (2 ^ (m + 1)) k = (tabs.getD m []).getD k 0) {l : Nat → Nat} (h : Low p l) :
    wheelN p tabs lg (wv l (2 ^ lg)) = wv (wheelS p back lg l) (2 ^ lg) := by
  unfold wheelN
  rw [forceN_eq, turnN_wv hp hp0 h _ (Nat.le_refl _), szN_wv hp hp0 ht _ (Low.turnS hp0 lg h _) hl]
  rfl

def forthT : List (List Nat) := [[1], [1, 911660635], [1, 372528824, 911660635, 488723995], [1, 929031873, 372528824, 628914303, 911660635, 373294451, 488723995, 661054123], [1, 452798380, 929031873, 666194801, 372528824, 170256584, 628914303, 863921598, 911660635, 617152567, 373294451, 543653592, 488723995, 645684063, 661054123, 910687289], [1, 922799308, 452798380, 15053575, 929031873, 320678134, 666194801, 323451984, 372528824, 71892972, 170256584, 382946991, 628914303, 839780419, 863921598, 288514398, 911660635, 105371557, 617152567, 181843661, 373294451, 717911102, 543653592, 77113778, 488723995, 482371381, 645684063, 399820479, 661054123, 112220581, 910687289, 388802388]]
def backT : List (List Nat) := [[1], [1, 86583718], [1, 509520358, 86583718, 625715529], [1, 337190230, 509520358, 624949902, 86583718, 369330050, 625715529, 69212480], [1, 87557064, 337190230, 352560290, 509520358, 454590761, 624949902, 381091786, 86583718, 134322755, 369330050, 827987769, 625715529, 332049552, 69212480, 545445973], [1, 609441965, 87557064, 886023772, 337190230, 598423874, 352560290, 515872972, 509520358, 921130575, 454590761, 280333251, 624949902, 816400692, 381091786, 892872796, 86583718, 709729955, 134322755, 158463934, 369330050, 615297362, 827987769, 926351381, 625715529, 674792369, 332049552, 677566219, 69212480, 983190778, 545445973, 75445045]]
theorem forth_ok : ∀ m, m < 6 → ∀ k, k < 2 ^ m → root 998244353 false (2 ^ (m + 1)) k = (forthT.getD m []).getD k 0 := by decide +kernel
theorem back_ok : ∀ m, m < 6 → ∀ k, k < 2 ^ m → root 998244353 true (2 ^ (m + 1)) k = (backT.getD m []).getD k 0 := by decide +kernel
def endN (lg j : Nat) : Nat := forceN (wheelN 998244353 forthT lg (2 ^ (32 * j))) fun v => forceN (wheelN 998244353 backT lg v) fun w => scaleN 998244353 (pw (2 ^ lg) 998244351 998244353) w (2 ^ lg)
theorem end0 : ∀ j, j < 2 ^ 0 → endN 0 j = 2 ^ (32 * j) := by decide +kernel
theorem end1 : ∀ j, j < 2 ^ 1 → endN 1 j = 2 ^ (32 * j) := by decide +kernel
theorem end2 : ∀ j, j < 2 ^ 2 → endN 2 j = 2 ^ (32 * j) := by decide +kernel
theorem end3 : ∀ j, j < 2 ^ 3 → endN 3 j = 2 ^ (32 * j) := by decide +kernel
theorem end4 : ∀ j, j < 2 ^ 4 → endN 4 j = 2 ^ (32 * j) := by decide +kernel
theorem end5 : ∀ j, j < 2 ^ 5 → endN 5 j = 2 ^ (32 * j) := by decide +kernel
theorem end6 : ∀ j, j < 2 ^ 6 → endN 6 j = 2 ^ (32 * j) := by decide +kernel
theorem end_all (lg j : Nat) (hl : lg ≤ 6) (hj : j < 2 ^ lg) : endN lg j = 2 ^ (32 * j) := by
  match lg, hl with
  | 0, _ => exact end0 j hj
  | 1, _ => exact end1 j hj
  | 2, _ => exact end2 j hj
  | 3, _ => exact end3 j hj
  | 4, _ => exact end4 j hj
  | 5, _ => exact end5 j hj
  | 6, _ => exact end6 j hj

end Go.Proofs.YtgeebjfbcjhifaaDoor
