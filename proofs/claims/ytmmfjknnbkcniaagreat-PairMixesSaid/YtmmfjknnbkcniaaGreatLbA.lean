/- Lists of labels: what a slice of them holds. -/
import Derived.Test.YtmmfjknnbkcniaaGreatOpen
import Derived.Test.YtmmfjknnbkcniaaGreatBox
namespace Go.Fl
/-- A label: its name, its value. -/
structure Lb where
  n : ByteArray
  v : ByteArray
instance : Inhabited Lb := ⟨⟨⟨#[]⟩, ⟨#[]⟩⟩⟩
def lbAt (l : List Lb) (i : Nat) : Lb := l.getD i default
def nL (l : List Lb) (i : Nat) : ByteArray := (lbAt l i).n
def vL (l : List Lb) (i : Nat) : ByteArray := (lbAt l i).v
/-- Texts that a machine holds. -/
def SmallT (s : ByteArray) : Prop := s.size ≤ 140737488355328
def SmallL (l : List Lb) : Prop := ∀ i, SmallT (nL l i) ∧ SmallT (vL l i)
theorem lbAt_get {l : List Lb} {i : Nat} (h : i < l.length) : lbAt l i = l[i] := by simp [lbAt, List.getD, h]
end Go.Fl
namespace Go.Proofs.YtmmfjknnbkcniaaGreat
open Go.Fl Go.Rel Go.RowKit Go.ChangeShapes Go.WideShapes Go.Deep

/-- What a slice of labels holds. -/
def LRow (w : World) (a : Option Addr) (n : Nat) (ls : List Lb) : Prop :=
  ls.length = n ∧ n ≤ 9223372036854775807 ∧ SmallL ls ∧
  (0 < n → ∃ b off, a = some ⟨b, off, none⟩ ∧ b < w.heap.size ∧ ∀ i, i < n → w.cell? ⟨b, off + i * 2, none⟩ = some (.string (nL ls i)) ∧ w.cell? ⟨b, off + i * 2 + 1, none⟩ = some (.string (vL ls i)))

theorem LRow.below {w w' : World} {a : Option Addr} {n : Nat} {ls : List Lb} (h : LRow w a n ls) (hb : Below w.heap.size w w') : LRow w' a n ls := by
  obtain ⟨h1, h2, h3, h4⟩ := h
  refine ⟨h1, h2, h3, fun hn => ?_⟩
  obtain ⟨b, off, ha, hlt, hc⟩ := h4 hn
  refine ⟨b, off, ha, Nat.lt_of_lt_of_le hlt hb.size, fun i hi => ?_⟩
  obtain ⟨c0, c1⟩ := hc i hi
  rw [hb.cell (p := ⟨b, off + i * 2, none⟩) hlt, hb.cell (p := ⟨b, off + i * 2 + 1, none⟩) hlt]
  exact ⟨c0, c1⟩
theorem LRow.nothing {w : World} (a : Option Addr) : LRow w a 0 [] := ⟨rfl, by omega, fun i => by unfold nL vL lbAt SmallT; simp; exact ⟨by decide, by decide⟩, fun h => by omega⟩

def lbCells (s : Lb) : List Value := [.string s.n, .string s.v]
theorem lbCells_length (ls : List Lb) : (ls.flatMap lbCells).length = ls.length * 2 := by
  induction ls with
  | nil => rfl
  | cons x xs ih => rw [List.flatMap_cons, List.length_append, ih]; simp [lbCells]; omega
end Go.Proofs.YtmmfjknnbkcniaaGreat
