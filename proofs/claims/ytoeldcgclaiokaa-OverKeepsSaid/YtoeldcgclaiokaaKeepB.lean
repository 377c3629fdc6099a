/- What stands while OverKeeps looks at one name. -/
import Derived.Test.YtoeldcgclaiokaaKeepA
namespace Go.Proofs.Ytoeldcgclaiokaa
open Go.Fl Go.Rel Go.RowKit
set_option linter.unusedVariables false
set_option linter.unusedSimpArgs false

/-- The cells of a block of samples. -/
def HoldS (cur : Array Value) (l : List Smp) : Prop := ∀ i, i < l.length → cur[i * 3]? = some (.int .i64 (tS l i)) ∧ cur[i * 3 + 1]? = some (.float .f64 (vS l i)) ∧ cur[i * 3 + 2]? = some (.bool (sS l i))
def BndS (l : List Smp) : Prop := ∀ i, -9223372036854775808 ≤ tS l i ∧ tS l i ≤ 9223372036854775807

theorem holds_own {B : Nat} {w : World} {g n cap : Nat} {l : List Smp} (h : OwnS B w (.slice (some ⟨g, 0, none⟩) n cap) l) (hn : n = l.length) : ∃ cur, Bk.Is w g cur 45 ∧ HoldS cur l ∧ B ≤ g ∧ l.length ≤ cap := by
  obtain ⟨h1, h2⟩ := h
  rcases h2 with ⟨h, _⟩ | ⟨g', cap', cur, he, hg, hb, hle, hm, hs, ht⟩
  · cases h
  · injection he with e1 e2 e3
    injection e1 with e1
    injection e1 with e1 _ _
    subst e1 e3
    refine ⟨cur, hb, fun i hi => ?_, hg, hle⟩
    have key : ∀ c u, c < 3 → (smpCells (sAt l i))[c]? = some u → cur[i * 3 + c]? = some u := fun c u hc hu => by
      have h5 := smpCells_get l i c hi hc
      rw [hu, ← ht, List.getElem?_take] at h5
      split at h5
      · rw [← Array.getElem?_toList]; exact h5
      · cases h5
    exact ⟨key 0 _ (by omega) rfl, key 1 _ (by omega) rfl, key 2 _ (by omega) rfl⟩

theorem sAt_app {ss : List Smp} (zs : List Smp) {i : Nat} (h : i < ss.length) : sAt (ss ++ zs) i = sAt ss i := by
  simp [sAt, List.getD, List.getElem?_append_left h]
theorem sAt_take {l : List Smp} {n i : Nat} (h : i < n) : sAt (l.take n) i = sAt l i := by simp [sAt, List.getD, h]

theorem srow_block {w : World} {g : Nat} {cur : Array Value} {l : List Smp} (hi : Bk.Is w g cur 45) (hh : HoldS cur l) (hb : BndS l) {n : Nat} (hn : n ≤ l.length) (hm : n ≤ 9223372036854775807) : SRow w (some ⟨g, 0, none⟩) n (l.take n) := by
  refine ⟨by simp; omega, hm, fun i => ?_, fun _ => ⟨g, 0, rfl, fun i hi2 => ?_⟩⟩
  · by_cases h : i < n
    · unfold tS; rw [sAt_take h]; exact hb i
    · rw [tS_out _ (by simp; omega)]; omega
  · obtain ⟨c0, c1, c2⟩ := hh i (by omega)
    unfold tS vS sS
    rw [sAt_take hi2, Nat.zero_add, hi.cell, hi.cell, hi.cell]
    exact ⟨c0, c1, c2⟩

/-- What stands: the copy in its variable, the mark, the list with spare room, the numbers. -/
structure KS (w0 : World) (n cap2 : Nat) (F T N : Int) (R9 R10 g2 g3 k : Nat) (l : List Smp) (xs : List Nat) (W : World) : Prop where
  bel : Below w0.heap.size w0 W
  i9 : Bk.Is W R9 (winCells (some ⟨g2, 0, none⟩) n cap2 F T N) 30
  i10 : Bk.Is W R10 #[.int .i64 (-7), .float .f64 4619567317775286272, .bool true] 45
  args : Row W (some ⟨g3, 0, none⟩) (k + 2) xs
  full : ∃ cur, Bk.Is W g2 cur 45 ∧ HoldS cur l
  n9 : R9 ≠ g2
  n10 : R10 ≠ g2
  n3 : g3 ≠ g2
  hg : w0.heap.size ≤ g2

section
variable {w0 : World} {n cap2 : Nat} {F T N : Int} {R9 R10 g2 g3 k : Nat} {l : List Smp} {xs : List Nat} {W W' : World}

theorem KS.below (h : KS w0 n cap2 F T N R9 R10 g2 g3 k l xs W) (hb : Below W.heap.size W W') : KS w0 n cap2 F T N R9 R10 g2 g3 k l xs W' := by
  obtain ⟨cur, c1, c2⟩ := h.full
  exact ⟨h.bel.trans (hb.mono h.bel.size), h.i9.below hb h.i9.lt, h.i10.below hb h.i10.lt, h.args.below hb, ⟨cur, c1.below hb c1.lt, c2⟩, h.n9, h.n10, h.n3, h.hg⟩
theorem KS.srow (h : KS w0 n cap2 F T N R9 R10 g2 g3 k l xs W) (hb : BndS l) (hl : l.length = n + 2) (hn : n < 17592186044416) : SRow W (some ⟨g2, 0, none⟩) n (l.take n) := by
  obtain ⟨cur, c1, c2⟩ := h.full
  exact srow_block c1 c2 hb (by omega) (by omega)
theorem KS.cells (h : KS w0 n cap2 F T N R9 R10 g2 g3 k l xs W) : W.cell? ⟨R9, 0, none⟩ = some (.slice (some ⟨g2, 0, none⟩) n cap2) ∧ W.cell? ⟨R9, 1, none⟩ = some (.int .i64 F) ∧ W.cell? ⟨R9, 2, none⟩ = some (.int .i64 T) ∧ W.cell? ⟨R9, 3, none⟩ = some (.int .i64 N) := win_cells h.i9
theorem KS.mark (h : KS w0 n cap2 F T N R9 R10 g2 g3 k l xs W) : W.cell? ⟨R10, 0, none⟩ = some (.int .i64 (-7)) ∧ W.cell? ⟨R10, 1, none⟩ = some (.float .f64 4619567317775286272) ∧ W.cell? ⟨R10, 2, none⟩ = some (.bool true) :=
  ⟨by rw [h.i10.cell]; rfl, by rw [h.i10.cell]; rfl, by rw [h.i10.cell]; rfl⟩
theorem KS.smp (h : KS w0 n cap2 F T N R9 R10 g2 g3 k l xs W) {i : Nat} (hi : i < l.length) : W.cell? ⟨g2, i * 3, none⟩ = some (.int .i64 (tS l i)) ∧ W.cell? ⟨g2, i * 3 + 1, none⟩ = some (.float .f64 (vS l i)) ∧ W.cell? ⟨g2, i * 3 + 2, none⟩ = some (.bool (sS l i)) := by
  obtain ⟨cur, c1, c2⟩ := h.full
  rw [c1.cell, c1.cell, c1.cell]
  exact c2 i hi
theorem KS.num (h : KS w0 n cap2 F T N R9 R10 g2 g3 k l xs W) {i : Nat} (hi : i < k + 2) : W.cell? ⟨g3, i, none⟩ = some (.float .f64 (at0 xs i)) := by
  obtain ⟨b, off, he, hc⟩ := h.args.2.2 (by omega)
  cases he
  have := hc i hi
  rwa [Nat.zero_add] at this
theorem KS.free (h : KS w0 n cap2 F T N R9 R10 g2 g3 k l xs W) (j : Nat) : W.frozen? ⟨g2, j, none⟩ = false := by
  obtain ⟨cur, c1, c2⟩ := h.full
  exact c1.free j

theorem cell_set_other {w : World} {p q : Addr} {v : Value} (hne : q.block ≠ p.block) : (w.setCell p v).cell? q = w.cell? q := by
  unfold World.setCell World.cell?
  simp [Array.getElem?_modify, Ne.symm hne]

/-- A value of a sample put anew. -/
def setV (l : List Smp) (j r : Nat) : List Smp := l.set j ⟨tS l j, r, sS l j⟩
theorem setV_length (l : List Smp) (j r : Nat) : (setV l j r).length = l.length := by simp [setV]
theorem sAt_setV {l : List Smp} {j r i : Nat} (hj : j < l.length) : sAt (setV l j r) i = if i = j then ⟨tS l j, r, sS l j⟩ else sAt l i := by
  unfold setV sAt
  by_cases h : i = j
  · subst h; rw [if_pos rfl]; simp [List.getD, hj]
  · rw [if_neg h]; simp [List.getD, List.getElem?_set_ne (Ne.symm h)]
theorem bnd_setV {l : List Smp} (h : BndS l) {j r : Nat} (hj : j < l.length) : BndS (setV l j r) := fun i => by
  unfold tS
  rw [sAt_setV hj]
  split
  · exact h j
  · exact h i

theorem KS.store (h : KS w0 n cap2 F T N R9 R10 g2 g3 k l xs W) {j : Nat} (hj : j < l.length) (r nd : Nat) : KS w0 n cap2 F T N R9 R10 g2 g3 k (setV l j r) xs ((W.drewN nd).setCell ⟨g2, j * 3 + 1, none⟩ (.float .f64 r)) := by
  obtain ⟨cur, c1, c2⟩ := h.full
  refine ⟨(h.bel.drewN' nd).trans ⟨rfl, rfl, rfl, by simp [World.setCell], fun i hi => ?_⟩, (h.i9.drewN nd).other (fun e => h.n9 e.symm) _, (h.i10.drewN nd).other (fun e => h.n10 e.symm) _, ?_, ⟨_, (c1.drewN nd).set (j * 3 + 1) _, fun i hi => ?_⟩, h.n9, h.n10, h.n3, h.hg⟩
  · have := h.hg
    unfold World.setCell
    simp [Array.getElem?_modify]
    intro e; omega
  · obtain ⟨a1, a2, a3⟩ := h.args
    refine ⟨a1, a2, fun h0 => ?_⟩
    obtain ⟨b, off, he, hc⟩ := a3 h0
    cases he
    exact ⟨_, _, rfl, fun i hi => by rw [cell_set_other (by exact h.n3)]; exact hc i hi⟩
  · rw [setV_length] at hi
    obtain ⟨d0, d1, d2⟩ := c2 i hi
    have hlt : j * 3 + 1 < cur.size := by
      have := (c2 j hj).2.1
      exact (Array.getElem?_eq_some_iff.1 this).1
    unfold tS vS sS
    rw [sAt_setV hj]
    by_cases e : i = j
    · subst e
      rw [if_pos rfl]
      refine ⟨?_, ?_, ?_⟩
      · rw [Array.getElem?_setIfInBounds_ne (by omega)]; exact d0
      · rw [Array.getElem?_setIfInBounds_self_of_lt hlt]
      · rw [Array.getElem?_setIfInBounds_ne (by omega)]; exact d2
    · rw [if_neg e]
      refine ⟨?_, ?_, ?_⟩
      · rw [Array.getElem?_setIfInBounds_ne (by omega)]; exact d0
      · rw [Array.getElem?_setIfInBounds_ne (by omega)]; exact d1
      · rw [Array.getElem?_setIfInBounds_ne (by omega)]; exact d2
end
end Go.Proofs.Ytoeldcgclaiokaa
