/- What a sort leaves: all blocks but the row's own. -/
import Derived.Shelf.SlSortCmp.Kit1
import Derived.Shelf.SlSortCmp.KitK
namespace Go.Stab
open Go.Shelf Go.RowKit Go.Lib Go.Sort Go.Proofs

/-- All but the row's block stays. -/
structure KeptButF (blk : Nat) (w w' : World) : Prop where
  os : w'.os = w.os
  tape : w'.tape = w.tape
  output : w'.output = w.output
  size : w.heap.size ≤ w'.heap.size
  block : ∀ k, k ≠ blk → k < w.heap.size → w'.heap[k]? = w.heap[k]?

theorem KeptButF.below {blk : Nat} {w w' : World} (h : KeptButF blk w w') (hb : blk < w.heap.size) : RowKit.Below blk w w' :=
  ⟨h.os, h.tape, h.output, h.size, fun k hk => h.block k (by omega) (by omega)⟩

theorem keptBut_sortWorld {α : Type} [Inhabited α] (enc : α → Value) (w : World) (blk off m : Nat) (dk : Array α) (os : Array Obj) : KeptButF blk w (sortWorld enc w blk off m dk os) where
  os := rfl
  tape := rfl
  output := rfl
  size := by unfold sortWorld; rw [size_grow, Go.Sort.size_putRow]; exact Nat.le_add_right _ _
  block k hk hlt := by
    unfold sortWorld
    rw [heap_grow_old _ _ (by rw [Go.Sort.size_putRow]; exact hlt)]
    unfold putRow mapBlock
    show (w.heap.modify blk _)[k]? = _
    rw [Array.getElem?_modify, if_neg (Ne.symm hk)]

theorem keptBut_sortWorldK {α : Type} [Inhabited α] (enc : α → List Value) (k : Nat) (w : World) (blk off m : Nat) (dk : Array α) (os : Array Obj) : KeptButF blk w (sortWorldK enc k w blk off m dk os) where
  os := rfl
  tape := rfl
  output := rfl
  size := by unfold sortWorldK; rw [size_grow, size_putRowK]; exact Nat.le_add_right _ _
  block j hk hlt := by
    unfold sortWorldK
    rw [heap_grow_old _ _ (by rw [size_putRowK]; exact hlt)]
    unfold putRowK putRow mapBlock
    show (w.heap.modify blk _)[j]? = _
    rw [Array.getElem?_modify, if_neg (Ne.symm hk)]

end Go.Stab
