/- pair.Mixed: the walk. weirref21.Mixed: the walk. (Printed by tools/genmixb.py.) pair.Negate: the walk. weirref21.Negate: the walk. -/
import Derived.Test.YtmmfjknnbkcniaaGreatDoorV28
import Derived.Deep.RegionWith
set_option maxHeartbeats 64000000
set_option maxRecDepth 100000
namespace Go.Proofs.YtmmfjknnbkcniaaGreatDoor
open Go.Fl Go.Rel Go.RowKit Go.Sort
set_option linter.unusedSimpArgs false
set_option linter.unusedVariables false
def ErKeep (w0 w : World) (e : Er) : Prop := ErOk w0 e ∨ ErOwn w0.heap.size w e
theorem ErKeep.ok {w0 w : World} {e : Er} (h : ErKeep w0 w e) (hb : Below w0.heap.size w0 w) : ErOk w e := by
 rcases h with h | h
 ·exact h.below hb
 ·exact h.ok
theorem ErKeep.below {w0 w w' : World} {e : Er} (h : ErKeep w0 w e) (hb : Below w.heap.size w w') : ErKeep w0 w' e := by
 rcases h with h | h
 ·exact .inl h
 ·exact .inr (h.below hb)
theorem ErKeep.grown {B : Nat} {w0 w w' : World} {v : Value} {es : List Er} {e : Er} (h : ErKeep w0 w e) (hv : OwnE B w v es) (hg : w.grownBy w' v.ownBlock) : ErKeep w0 w' e := by
 rcases h with h | h
 ·exact .inl h
 ·exact .inr (h.grown hv hg)
theorem OwnE.setCell {B g i : Nat} {w : World} {v u : Value} {es : List Er} (h : OwnE B w v es) (hg : v.ownBlock ≠ some g) : OwnE B (w.setCell ⟨g, i, none⟩ u) v es :=
 h.stay fun k hk => by
  have : g ≠ k := fun e => hg (by rw [e]; exact hk)
  unfold World.setCell
  simp [Array.getElem?_modify]
  intro e; exact absurd e this
theorem ErOwn.setCell {B g i : Nat} {w : World} {u : Value} {e : Er} (h : ErOwn B w e) (hg : (Value.slice e.a e.n e.c).ownBlock ≠ some g) : ErOwn B (w.setCell ⟨g, i, none⟩ u) e :=
 ⟨h.1.stay fun k hk => by
  have : g ≠ k := fun e => hg (by rw [e]; exact hk)
  unfold World.setCell
  simp [Array.getElem?_modify]
  intro e; exact absurd e this, h.2⟩
theorem filt_snoc {es : List Er} {f : Ek → Option Ek} {j : Nat} (h : j < es.length) : ((es.take (j + 1)).map Er.key).filterMap f = ((es.take j).map Er.key).filterMap f ++ (match f (erAt es j).key with | none => [] | some y => [y]) := by
 rw [List.take_add_one, List.getElem?_eq_getElem h, List.map_append, List.filterMap_append, erAt_get h]
 congr 1
 simp only [Option.toList, List.map_cons, List.map_nil, List.filterMap_cons, List.filterMap_nil]
 cases f es[j].key <;> rfl
end Go.Proofs.YtmmfjknnbkcniaaGreatDoor
namespace Go.Proofs.YtmmfjknnbkcniaaGreatDoor
open Go.Fl Go.Rel Go.RowKit Go.Sort Go.Utf
set_option linter.unusedSimpArgs false
set_option linter.unusedVariables false
end Go.Proofs.YtmmfjknnbkcniaaGreatDoor
namespace Go.Proofs.YtmmfjknnbkcniaaGreatDoor
open Go.Fl Go.Rel Go.RowKit Go.Sort
set_option linter.unusedSimpArgs false
set_option linter.unusedVariables false
theorem erAt_set {l : List Er} {i j : Nat} {b : Er} (h : i < l.length) : erAt (l.set i b) j = if i = j then b else erAt l j := by
 unfold erAt
 by_cases e : i = j
 ·subst e; simp [List.getD, h]
 ·simp [List.getD, e, List.getElem?_set_ne]
theorem WRE.set {w : World} {g : Nat} {l : List Er} (h : WRE w g l) (i : Nat) (y : Er) (hi : i < l.length) :
  WRE ((w.setCell ⟨g, i * 2, none⟩ (.slice y.a y.n y.c)).setCell ⟨g, i * 2 + 1, none⟩ (.float .f64 y.f)) g (l.set i y) := by
 obtain ⟨h0, h⟩ := h
 refine ⟨by simpa using h0, fun j hj c hc => ?_⟩
 rw [List.length_set] at hj
 obtain ⟨c0, f0⟩ := h j hj c hc
 obtain ⟨d0, _⟩ := h i hi 0 (by omega)
 obtain ⟨d1, _⟩ := h i hi 1 (by omega)
 rw [Nat.zero_add] at c0 f0 d0 d1 ⊢
 rw [erAt_set hi]
 refine ⟨?_, by rw [World.frozen?_setCell, World.frozen?_setCell]; exact f0⟩
 by_cases e : i = j
 ·subst e
  rw [if_pos rfl]
  rcases (by omega : c = 0 ∨ c = 1) with rfl | rfl
  ·rw [World.cell?_setCell_other _ _ _ _ (fun h => by injection h with _ h2 _; omega)]
   rw [Nat.add_zero]
   exact World.cell?_setCell_same _ _ _ (by rw [Nat.add_zero] at d0; exact d0)
  ·exact World.cell?_setCell_same _ _ _ (by rw [World.cell?_setCell_other _ _ _ _ (fun h => by injection h with _ h2 _; omega)]; exact d1)
 ·rw [if_neg e, World.cell?_setCell_other _ _ _ _ (fun h => by injection h with _ h2 _; omega), World.cell?_setCell_other _ _ _ _ (fun h => by injection h with _ h2 _; omega)]
  exact c0
theorem WRE.below {w w' : World} {g k : Nat} {l : List Er} (h : WRE w g l) (hb : Below k w w') (hk : g < k) : WRE w' g l := by
 obtain ⟨h0, h⟩ := h
 have hgl : g < w'.heap.size := by
  have hb2 := hb.block g hk
  rw [Array.getElem?_eq_getElem h0] at hb2
  by_cases hh : g < w'.heap.size
  ·exact hh
  ·rw [Array.getElem?_eq_none (by omega)] at hb2; cases hb2
 refine ⟨hgl, fun i hi c hc => ?_⟩
 obtain ⟨c0, f0⟩ := h i hi c hc
 rw [hb.cell (p := ⟨g, 0 + i * 2 + c, none⟩) hk]
 refine ⟨c0, ?_⟩
 unfold World.frozen? at *; rw [hb.block g hk]; exact f0
end Go.Proofs.YtmmfjknnbkcniaaGreatDoor
namespace Go.Proofs.YtmmfjknnbkcniaaGreatDoor
open Go.Fl Go.Rel Go.RowKit Go.Sort
set_option linter.unusedSimpArgs false
set_option linter.unusedVariables false
end Go.Proofs.YtmmfjknnbkcniaaGreatDoor
