/- A block of cells, known whole: through stores, draws and new blocks. -/
import Derived.Test.YtmmfjknnbkcniaaGreatStep
namespace Go.Bk
open Go.RowKit

/-- Block B holds just these cells, none frozen. -/
def Is (w : World) (B : Nat) (cs : Array Value) (t : TypeId) : Prop := w.heap[B]? = some (.cells cs t (0, 0))

theorem Is.made (w : World) (cs : Array Value) (t : TypeId) : Is (w.alloc (.cells cs t)) w.heap.size cs t := by
  show (w.heap.push _)[w.heap.size]? = _
  rw [Array.getElem?_push_size]
theorem Is.lt {w : World} {B : Nat} {cs : Array Value} {t : TypeId} (h : Is w B cs t) : B < w.heap.size := (Array.getElem?_eq_some_iff.1 h).1
theorem Is.alloc {w : World} {B : Nat} {cs : Array Value} {t : TypeId} (h : Is w B cs t) (o : Obj) : Is (w.alloc o) B cs t := by
  show (w.heap.push o)[B]? = _
  rw [Array.getElem?_push, if_neg (by have := h.lt; omega)]; exact h
theorem Is.drewN {w : World} {B : Nat} {cs : Array Value} {t : TypeId} (h : Is w B cs t) (n : Nat) : Is (w.drewN n) B cs t := h
theorem Is.drew {w : World} {B : Nat} {cs : Array Value} {t : TypeId} (h : Is w B cs t) : Is w.drew B cs t := h
theorem Is.set {w : World} {B : Nat} {cs : Array Value} {t : TypeId} (h : Is w B cs t) (j : Nat) (v : Value) : Is (w.setCell ⟨B, j, none⟩ v) B (cs.setIfInBounds j v) t := by
  unfold Is World.setCell at *
  simp [Array.getElem?_modify, h]
theorem Is.other {w : World} {B : Nat} {cs : Array Value} {t : TypeId} (h : Is w B cs t) {a : Addr} (hne : a.block ≠ B) (v : Value) : Is (w.setCell a v) B cs t := by
  unfold Is World.setCell at *
  simp [Array.getElem?_modify, hne, h]
theorem Is.below {w w' : World} {B : Nat} {cs : Array Value} {t : TypeId} (h : Is w B cs t) {k : Nat} (hb : Below k w w') (hk : B < k) : Is w' B cs t := by
  unfold Is at *
  rw [hb.block B hk]; exact h
theorem Is.cell {w : World} {B : Nat} {cs : Array Value} {t : TypeId} (h : Is w B cs t) (j : Nat) : w.cell? ⟨B, j, none⟩ = cs[j]? := by
  unfold Is at h
  simp [World.cell?, h]
theorem Is.free {w : World} {B : Nat} {cs : Array Value} {t : TypeId} (h : Is w B cs t) (j : Nat) : w.frozen? ⟨B, j, none⟩ = false := by
  unfold Is at h
  simp [World.frozen?, h]

/-- A result that lies in a variable, a struct known whole. -/
theorem results_block {P : Program} {fn : Func} {p : Tmp} {ty : TypeId} {B : Nat} {cs : Array Value} {t : TypeId} {tmps : Array Value} {w : World} {d : TypeDesc} (h : fn.results = #[.cell p ty])
    (hp : tmps.getD p undef = .pointer (some ⟨B, 0, none⟩)) (hi : Is w B cs t) (hu : P.underlying ty = some d) (hd : (match d with | .struct _ | .array _ _ => true | _ => false) = true)
    (hz : (P.info? ty).map (·.size) = some cs.size) : (results fn tmps).run P w = .ok (.agg cs) w := by
  have hl := run_loadVar_row (P := P) w B t ty cs (0, 0) d hi hu hd hz
  have h1 : (results fn tmps).run P w = ((asAddr (tmps.getD p undef)).run P w).andThen fun a w' => (loadVar ty a).run P w' := by
    simp only [results, h]
    simp [Sem.run_bind]
  rw [h1, hp]
  exact hl

/-- The end of a function whose result is such a struct. -/
theorem ret_block {P : Program} {fn : Func} {p : Tmp} {ty : TypeId} {B : Nat} {cs : Array Value} {t : TypeId} {a : Act} {w : World} {d : TypeDesc} {R : Ending → World → Prop} (hi : Is w B cs t) (h : fn.results = #[.cell p ty])
    (hp : a.tmps.getD p undef = .pointer (some ⟨B, 0, none⟩)) (hu : P.underlying ty = some d) (hd : (match d with | .struct _ | .array _ _ => true | _ => false) = true)
    (hz : (P.info? ty).map (·.size) = some cs.size) (hdf : a.defers = []) (hR : R (.returned (.agg cs)) w) : bodyPost P fn R .ret a w :=
  bodyPost_ret (results_block h hp hi hu hd hz) hdf hR

end Go.Bk
