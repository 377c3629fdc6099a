/- The line of least squares, as a plain function of classes; totals in memory. -/
import Derived.Test.YtllphokepjekpaaLineA
import Derived.Test.YtllphokepjekpaaMeanA
import Derived.Test.YtllphokepjekpaaBox
namespace Go.Bk
open Go.RowKit

theorem wpList_store_box0 {P : Program} {ops : Array Oper} {rest : List Oper} {o : Oper} {a : Act} {w0 : World} {Q : Exit → Act → World → Prop} (hgd : o.guard = none) (ty : TypeId) (x y : Operand) (ho : o.op = .store ty x y)
    (vals zeros : Array Value) (t : TypeId) (hx : a.eval x = .pointer (some ⟨w0.heap.size, 0, none⟩)) (hy : a.eval y = .agg vals)
    (hi : (P.info? ty).map (·.size) = some vals.size) (hold : zeros.size = vals.size) (h1 : vals.all (·.oneCell') = true)
    (h : ∀ W, Is W w0.heap.size vals t → Below w0.heap.size w0 W → wpList P ops Q rest (a.put o.dst undef) W) : wpList P ops Q (o :: rest) a (w0.alloc (.cells zeros t)) := by
  have hm : Is (w0.alloc (.cells zeros t)) w0.heap.size zeros t := Is.made w0 zeros t
  refine wpList_store_row hgd ty x y ho w0.heap.size vals hx hy t zeros hm hi hold h1 ?_
  exact h _ (hm.setRow vals) (below_setRow ((Below.refl _ _).alloc (Nat.le_refl _) _) (Nat.le_refl _) vals)

end Go.Bk
namespace Go.Proofs.Ytllphokepjekpaa
open Go.Fl Go.Rel Go.RowKit

/-- Whole ms in seconds. -/
def secF (z : Int) : Nat := fdiv (floatOfInt .f64 z) 4652007308841189376
/-- The samples' times in seconds, less that of 'at'. -/
def tcs (z : Int) (ss : List Smp) : List Nat := ss.map fun s => secF (wrap64 (s.t - z))
def muls (xs ys : List Nat) : List Nat := List.zipWith fmul xs ys

theorem at0_tcs (z : Int) (ss : List Smp) {i : Nat} (h : i < ss.length) : at0 (tcs z ss) i = secF (wrap64 (tS ss i - z)) := by
  simp [tcs, at0, tS, sAt, List.getD, h]
theorem length_tcs (z : Int) (ss : List Smp) : (tcs z ss).length = ss.length := by simp [tcs]
theorem at0_muls {xs ys : List Nat} {i : Nat} (h : i < xs.length) (h' : i < ys.length) : at0 (muls xs ys) i = fmul (at0 xs i) (at0 ys i) := by
  simp [muls, at0, List.getD, List.getElem?_zipWith, h, h']
theorem length_muls {xs ys : List Nat} (h : ys.length = xs.length) : (muls xs ys).length = xs.length := by simp [muls, h]

def levelS (vs : List Nat) : Bool := vs.length == 1 || !anyNe vs (at0 vs 0)

/-- Slope and value, from the times and the values. -/
def lineC (ts vs : List Nat) : Nat × Nat :=
  let n := nfl ts.length
  let sx := sumS ts
  let sy := sumS vs
  let c := fsub (sumS (muls ts vs)) (fdiv (fmul sx sy) n)
  let d := fsub (sumS (muls ts ts)) (fdiv (fmul sx sx) n)
  let slope := fdiv c d
  (slope, fsub (fdiv sy n) (fdiv (fmul slope sx) n))

def lineS (ts vs : List Nat) : Nat × Nat :=
  if vs.length = 0 then (nanc, nanc) else if levelS vs = true then (if finf (at0 vs 0) = true then (nanc, nanc) else (0, at0 vs 0)) else lineC ts vs

/-- Two floats of these classes; what was there stays. -/
def FB2 (s : Nat × Nat) (w : World) (e : Ending) (w' : World) : Prop := ∃ r q, e = .returned (.tuple #[.float .f64 r, .float .f64 q]) ∧ cn r = s.1 ∧ cn q = s.2 ∧ Below w.heap.size w w'

theorem TotIs.below {w w' : World} {B k : Nat} {st : Nat × Nat} (h : TotIs w B st) (hb : Below k w w') (hk : B < k) : TotIs w' B st := by
  obtain ⟨s, c, hi, h1, h2⟩ := h
  exact ⟨s, c, hi.below hb hk, h1, h2⟩

/-- A total takes one number more; the others stay. -/
theorem add_tot {w : World} {B : Nat} {st : Nat × Nat} (h : TotIs w B st) (v c : Nat) (hc : cn v = c) : 
    Calls Try.prog 55 #[.pointer (some ⟨B, 0, none⟩), .float .f64 v] w fun e w' => e = .returned (.tuple #[]) ∧ TotIs w' B (addT st c) ∧ (∀ B' st', B' ≠ B → TotIs w B' st' → TotIs w' B' st') ∧ (∀ k, k ≤ B → ∀ w0, Below k w0 w → Below k w0 w') ∧
      (∀ p : Addr, p.block ≠ B → w'.cell? p = w.cell? p) ∧ w'.heap.size = w.heap.size := by
  obtain ⟨s, l, hi, h1, h2⟩ := h
  refine (add_any B s l v w hi).mono ?_
  rintro e w' ⟨rfl, s1, c1, m, rfl, g1, g2⟩
  have est : (cn s, cn l) = st := Prod.ext h1 h2
  rw [est, hc] at g1 g2
  refine ⟨rfl, ⟨s1, c1, ?_, g1, g2⟩, fun B' st' hne hT => ?_, fun k hk w0 hb => ?_, fun p hp => ?_, ?_⟩
  · exact ((hi.set 1 _).set 0 _).drewN _
  · obtain ⟨s2, c2, hi2, e1, e2⟩ := hT
    exact ⟨s2, c2, ((hi2.other (a := ⟨B, 1, none⟩) (by exact fun h => hne h.symm) _).other (a := ⟨B, 0, none⟩) (by exact fun h => hne h.symm) _).drewN _, e1, e2⟩
  · exact ((hb.setCell hk _).setCell hk _).drewN' _
  · show (((w.setCell ⟨B, 1, none⟩ _).setCell ⟨B, 0, none⟩ _)).cell? p = _
    rw [World.cell?_setCell_other _ _ _ _ (fun h => hp (by rw [← h])), World.cell?_setCell_other _ _ _ _ (fun h => hp (by rw [← h]))]
  · show (((w.setCell ⟨B, 1, none⟩ _).setCell ⟨B, 0, none⟩ _)).heap.size = _
    simp

theorem answer_tot {w : World} {B : Nat} {st : Nat × Nat} (h : TotIs w B st) : Calls Try.prog 56 #[.pointer (some ⟨B, 0, none⟩)] w (FRet (fadd st.1 st.2) w) := by
  obtain ⟨s, c, hi, h1, h2⟩ := h
  rw [← h1, ← h2]
  exact answer_any B s c w hi

theorem TotIs.drewN {w : World} {B : Nat} {st : Nat × Nat} (h : TotIs w B st) (n : Nat) : TotIs (w.drewN n) B st := by
  obtain ⟨s, c, hi, h1, h2⟩ := h
  exact ⟨s, c, hi.drewN n, h1, h2⟩

end Go.Proofs.Ytllphokepjekpaa
