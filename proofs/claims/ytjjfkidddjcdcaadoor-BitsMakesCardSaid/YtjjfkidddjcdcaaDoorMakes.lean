/- Proved here: the walk of enclosurelaw.BitsMakes at this program: it returns true. Conditions: as the theorem says. -/
import Derived.Test.YtjjfkidddjcdcaaDoorMade2
import Derived.Test.YtjjfkidddjcdcaaDoorLaid
namespace Go.Proofs.YtjjfkidddjcdcaaDoor
open Go.ChangeShapes Go.WideShapes Go.ChangeAt Go.RowKit
open Go.Proofs (TabAt)

theorem makes_true (m e : Int) (hm1 : -9223372036854775808 ≤ m) (hm2 : m ≤ 9223372036854775807) (w : World) (hG : Glob w) (hT : TabAt 2 Go.Lib.deBruijn64tab w) :
    Calls Tryd.prog 5 #[.int .i64 m, .int .i64 e] w fun en w' => en = .returned (.bool true) ∧ Below w.heap.size w w' := by
  have C12 := Lib.hid (made_any w hG.g0 hG.g1 hG.sz hT)
  have C23 := Lib.hid (fun w (hG : Glob w) => make_any m e hm1 hm2 w hG.g0 hG.g1 hG.sz)
  have C24 := Lib.hid (fun w => made_z m e w hm1 hm2)
  have C22 := Lib.hid (fun a w => bits_same a w)
  have HG := Lib.hid hG
  clear hG hT
  generalize makeW (decide (m < 0)) m.natAbs e = V at *
  go_enter Tryd.func5, Tryd.ntmps5
  go_wp2_with fail
  refine C12.out.mono ?_
  rintro en w1 ⟨rfl, hb1⟩
  go_wp2_with fail
  refine (C23.out _ (HG.out.below hb1)).mono ?_
  rintro en w2 ⟨rfl, hb2⟩
  have hb02 := hb1.trans (hb2.mono hb1.size)
  go_wp2_with fail
  refine (C24.out w2).mono ?_
  rintro en w3 ⟨hb3, rfl⟩
  have hb03 := hb02.trans (hb3.mono hb02.size)
  go_wp2_with fail
  refine (C22.out V w3).mono ?_
  rintro en w4 ⟨rfl, rfl⟩
  go_wp2_with fail
  go_ret
  exact ⟨rfl, hb03⟩
end Go.Proofs.YtjjfkidddjcdcaaDoor
