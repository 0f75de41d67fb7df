/- Proved here: plain facts of new whole numbers in memory, and the contract of a product that is put into one. Conditions: as each theorem says. -/
import Derived.Test.YtjjfkidddjcdcaaDoorRatMul
namespace Go.Proofs.YtjjfkidddjcdcaaDoor
open Go.ChangeShapes Go.WideShapes Go.ChangeAt Go.RowKit

theorem zero_new {w : World} {b : Nat} (h : b = w.heap.size) : At (w.alloc (Obj.cells #[.bool false, .slice none 0 0] 101)) b 0 0 := by subst h; exact At.zero w
theorem At.up {w : World} {b : Nat} {y : Int} (h : At w b 0 y) : At (w.alloc (Obj.cells #[.bool false, .slice none 0 0] 101)) b 0 y := h.below (below_new w _)
theorem below_up {w w' : World} (h : Below w.heap.size w w') : Below w.heap.size w (w'.alloc (Obj.cells #[.bool false, .slice none 0 0] 101)) := h.alloc h.size _

/-- What a product in a new Int leaves, and that nothing is given back. -/
def MulNw (w wc : World) (b : Nat) (z : Int) (e : Ending) (w' : World) : Prop := MulNew w wc b z e w' ∧ wc.heap.size ≤ w'.heap.size
theorem mul_nw (w wc : World) (b gx ox gy oy : Nat) (x y : Int) (hx : At w gx ox x) (hy : At w gy oy y) (h1 : Go.Proofs.YtjjfkidddjcdcaaDoor.wc x.natAbs ≤ 50000) (h2 : Go.Proofs.YtjjfkidddjcdcaaDoor.wc y.natAbs ≤ 50000)
    (hb : Below w.heap.size w wc) (hz : At wc b 0 0) (hge : w.heap.size ≤ b) :
    Calls Tryd.prog 102 #[.pointer (some ⟨b, 0, none⟩), .pointer (some ⟨gx, ox, none⟩), .pointer (some ⟨gy, oy, none⟩)] wc (MulNw w wc b (x * y)) := by
  have l1 := hx.lt
  have l2 := hy.lt
  refine (mul_z b 0 gx ox gy oy 0 x y wc hz (hx.below hb) (hy.below hb) (by omega) (by omega) h1 h2).mono ?_
  rintro e w' ⟨rfl, hP⟩
  exact ⟨⟨rfl, hP.below hb hge hb.size, hP.at_, fun b' y' hne h => h.put hz hP (by omega)⟩, hP.grown.size⟩

end Go.Proofs.YtjjfkidddjcdcaaDoor
