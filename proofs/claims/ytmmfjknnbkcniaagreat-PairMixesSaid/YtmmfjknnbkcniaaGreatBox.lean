/- A struct put whole into a new block. -/
import Derived.Test.YtmmfjknnbkcniaaGreatBlock
import Derived.Laws.Tables
import Derived.Laws.CopyOwn
namespace Go.Bk
open Go.RowKit

theorem Is.setRow {w : World} {B : Nat} {cs : Array Value} {t : TypeId} (h : Is w B cs t) (vs : Array Value) : Is (w.setRow B vs) B vs t := by
  unfold Is World.setRow at *
  simp [Array.getElem?_modify, h]

theorem below_setRow {B k : Nat} {a w : World} (h : Below B a w) (hk : B ≤ k) (vs : Array Value) : Below B a (w.setRow k vs) :=
  h.trans ⟨rfl, rfl, rfl, by simp, fun i hi => by unfold World.setRow; simp [Array.getElem?_modify]; intro e; omega⟩

/-- A guard: is the operation at hand a store of this type? -/
theorem is_store {P : Program} {ops : Array Oper} {rest : List Oper} {o : Oper} {a : Act} {w : World} {Q : Exit → Act → World → Prop} (ty : TypeId) {x y : Operand} (_ho : o.op = .store ty x y) (h : wpList P ops Q (o :: rest) a w) : wpList P ops Q (o :: rest) a w := h

theorem wpList_store_box {P : Program} {ops : Array Oper} {rest : List Oper} {o : Oper} {a : Act} {w0 : World} {N : Nat} {Q : Exit → Act → World → Prop} (hgd : o.guard = none) (ty : TypeId) (x y : Operand) (ho : o.op = .store ty x y)
    (vals zeros : Array Value) (t : TypeId) (hx : a.eval x = .pointer (some ⟨w0.heap.size, 0, none⟩)) (hy : a.eval y = .agg vals)
    (hi : (P.info? ty).map (·.size) = some vals.size) (hold : zeros.size = vals.size) (h1 : vals.all (·.oneCell') = true)
    (h : ∀ W, Is W w0.heap.size vals t → Below w0.heap.size w0 W → wpList P ops Q rest (a.put o.dst undef) W) : wpList P ops Q (o :: rest) a ((w0.drewN N).alloc (.cells zeros t)) := by
  have hm : Is ((w0.drewN N).alloc (.cells zeros t)) w0.heap.size zeros t := Is.made (w0.drewN N) zeros t
  refine wpList_store_row hgd ty x y ho w0.heap.size vals hx hy t zeros hm hi hold h1 ?_
  exact h _ (hm.setRow vals) (below_setRow (((Below.refl _ _).drewN' N).alloc (Nat.le_refl _) _) (Nat.le_refl _) vals)

end Go.Bk
