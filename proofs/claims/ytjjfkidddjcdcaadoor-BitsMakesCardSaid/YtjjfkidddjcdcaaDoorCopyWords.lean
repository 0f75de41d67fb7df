/- Proved here: what the builtin copy does with words of 32 bits, into a row that the call made. Conditions: as each theorem says. -/
import Derived.Test.YtjjfkidddjcdcaaDoorDivPlain
import Derived.Laws.IdiomCopy
namespace Go.Proofs.YtjjfkidddjcdcaaDoor
open Go.ChangeShapes Go.WideShapes Go.ChangeAt Go.RowKit

theorem rowIs_setCells (g : Nat) (t : TypeId) (n : Nat) (k : Nat → Value) : ∀ (vs : List Value) (o : Nat) (w : World) (f : Nat → Value), w.rowIs g t n f → (∀ i, i < vs.length → vs[i]? = some (k (o + i))) →
    (w.setCells g o vs).rowIs g t n (fun j => if o ≤ j ∧ j < o + vs.length then k j else f j)
  | [], o, w, f, h, _ => h.congr (fun j _ => by rw [if_neg]; simp)
  | v :: r, o, w, f, h, e => by
    have e0 := e 0 (by simp)
    simp at e0
    refine (rowIs_setCells g t n k r (o + 1) _ _ (h.set o v) (fun i hi => ?_)).congr (fun j _ => ?_)
    · have := e (i + 1) (by simpa using hi)
      rw [show o + 1 + i = o + (i + 1) by omega]
      simpa using this
    · simp only [List.length_cons]
      by_cases h1 : o + 1 ≤ j ∧ j < o + 1 + r.length
      · rw [if_pos h1, if_pos (by omega)]
      · rw [if_neg h1]
        by_cases h2 : j = o
        · rw [if_pos h2, if_pos (by omega), h2, e0]
        · rw [if_neg h2, if_neg (by omega)]

theorem below_setCells {B g : Nat} {w0 : World} (hB : B ≤ g) : ∀ (vs : List Value) (o : Nat) (w : World), Below B w0 w → Below B w0 (w.setCells g o vs)
  | [], _, _, h => h
  | v :: r, o, _, h => below_setCells hB r (o + 1) _ (h.setCell hB v)

set_option maxRecDepth 100000 in
theorem copy_words (w : World) (g L n c : Nat) (A : Option Addr) (ty : TypeId) (f : Nat → Nat) (h : Nat → Value) (hg : w.rowIs g 138 L h) (hR : Row32 w A n f) (hn : n ≤ L) :
    ∃ w', (Builtin.copy_ #[99, 99] ty #[.slice (some ⟨g, 0, none⟩) L L, .slice A n c]).run Tryd.prog w = .ok (goInt n) w' ∧ w'.rowIs g 138 L (fun j => if j < n then .int .u32 (f j : Nat) else h j) ∧ (∀ B w0, B ≤ g → Below B w0 w → Below B w0 w') := by
  have hs : (Tryd.prog.info? 138).map (·.size) = some 1 := rfl
  rcases Nat.eq_zero_or_pos n with h0 | h0
  · subst h0
    exact ⟨w, run_copy_none w 99 99 ty 138 _ _ _ _ _ _ Tryd.underlying99 hs (Nat.zero_min _), hg.congr (fun j _ => by rw [if_neg (by omega)]), fun _ _ _ hb => hb⟩
  · obtain ⟨b, off, rfl, hb, hcell⟩ := hR h0
    refine ⟨w.setCells g 0 ((List.range n).map (fun j => .int .u32 (f j : Nat))), ?_, ?_, fun B w0 hB hb0 => below_setCells hB _ _ _ hb0⟩
    · have hrun := run_copy_cells (P := Tryd.prog) w 99 99 ty 138 g 0 L L ⟨b, off, none⟩ n c ((List.range n).map (fun j => .int .u32 (f j : Nat))) Tryd.underlying99 hs (by simpa using (Nat.min_eq_left hn).symm) (by
        intro j u hu
        rw [List.getElem?_map] at hu
        by_cases hj : j < n
        · rw [List.getElem?_range hj] at hu
          injection hu with hu
          rw [← hu, ← hcell j hj]
          by_cases h0 : j = 0 <;> simp [Addr.add, h0]
        · rw [List.getElem?_eq_none (by simpa using hj)] at hu
          cases hu) (by
        intro j hj
        rw [Nat.zero_add, hg.cell (i := j) (by simp at hj; omega)]; rfl) (by
        intro j _
        rw [Nat.zero_add]; exact hg.frozen j) (by
        intro u hu
        simp at hu
        obtain ⟨_, _, rfl⟩ := hu
        rfl)
      rw [hrun]
      simp
    · refine (rowIs_setCells g 138 L (fun j => .int .u32 (f j : Nat)) _ 0 w h hg (fun i hi => ?_)).congr (fun j _ => ?_)
      · simp at hi
        rw [List.getElem?_map, List.getElem?_range hi, Nat.zero_add]; rfl
      · simp

theorem wpList_copy {ops : Array Oper} {rest : List Oper} {o : Oper} {a : Act} {w : World} {Q : Exit → Act → World → Prop} (hgd : o.guard = none) (s x : Operand) (t : TypeId)
    (ho : o.op = .call { callee := .builtin .copy, args := #[s, x], argTypes := #[t, t] }) (v1 v2 v' : Value) (w' : World) (h1 : a.eval s = v1) (h2 : a.eval x = v2)
    (hrun : (Builtin.copy_ #[t, t] o.type #[v1, v2]).run Tryd.prog w = .ok v' w') (h : wpList Tryd.prog ops Q rest (a.put o.dst v') w') : wpList Tryd.prog ops Q (o :: rest) a w :=
  wpList_plain hgd fun _ hK => by
    unfold Oper.wp execOp
    simp only [ho, resolve, invoke, builtin, Sem.run_bind, Sem.run_pure, Result.andThen_ok, List.map_toArray, List.map_cons, List.map_nil, h1, h2, hrun]
    exact hK _ _ h
end Go.Proofs.YtjjfkidddjcdcaaDoor
