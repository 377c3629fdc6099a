/- A list of floats that a call appends to: its own row. -/
import Derived.Test.YtmmfjknnbkcniaaSmall
import Derived.Maps.AppendAt
import Derived.WalkKit
import Derived.ProofKit
namespace Go.Proofs.Ytmmfjknnbkcniaa
open Go.Fl Go.Rel Go.RowKit

/-- A list under way: it lies in blocks from B on, and holds ys. -/
def Own (B : Nat) (w : World) (v : Value) (ys : List Nat) : Prop := w.ownsRow B 22 1 v ys.length (ys.map (Value.float .f64))

theorem own_nil (B : Nat) (w : World) : Own B w (.slice none 0 0) [] := World.ownsRow_nil _ _ _ _

theorem Own.drewN {B : Nat} {w : World} {v : Value} {ys : List Nat} (h : Own B w v ys) (n : Nat) : Own B (w.drewN n) v ys := h
theorem Own.alloc {B : Nat} {w : World} {v : Value} {ys : List Nat} (h : Own B w v ys) (o : Obj) : Own B (w.alloc o) v ys := World.ownsRow.alloc h o

/-- Another's row stays. -/
theorem Own.kept {B : Nat} {w w' : World} {v : Value} {ys : List Nat} {row : Option Nat} (h : Own B w v ys) (hg : w.grownBy w' row) (hne : v.ownBlock = none ∨ v.ownBlock ≠ row) : Own B w' v ys := World.ownsRow.kept h hg hne

/-- A store outside it. -/
theorem Own.setCell {B : Nat} {w : World} {v : Value} {ys : List Nat} (h : Own B w v ys) {a : Addr} (ha : a.block < B) (u : Value) : Own B (w.setCell a u) v ys := ownsRow_setCell_below h ha u

theorem Own.row {B : Nat} {w : World} {v : Value} {ys : List Nat} (h : Own B w v ys) : ∃ a cap, v = .slice a ys.length cap ∧ Row w a ys.length ys := by
  have h0 := h
  obtain ⟨h1, h2⟩ := h
  rcases h2 with ⟨rfl, hn⟩ | ⟨g, cap, cur, rfl, hg, hb, hn, hcap, hs, ht⟩
  · refine ⟨none, 0, by rw [hn], ⟨rfl, by omega, fun h => by omega⟩⟩
  · refine ⟨_, _, rfl, rfl, by unfold maxLen at hcap; omega, fun _ => ⟨g, 0, rfl, fun i hi => ?_⟩⟩
    have := World.ownsRow.cells h0 (g := g) rfl i (.float .f64 (at0 ys i)) (by simp [at0, List.getD, hi])
    rw [show (⟨g, 0, none⟩ : Addr).add i = ⟨g, 0 + i, none⟩ by unfold Addr.add; split <;> simp_all] at this
    exact this

theorem info_f : (Try.prog.info? 22).map (fun i => (i.zero, i.size, i.bytes)) = some (some (.float .f64 0), 1, 8) := by kernel_rfl

/-- What was there ahead of B stays, behind an append. -/
theorem Own.below {B : Nat} {w0 w w' : World} {v : Value} {ys : List Nat} (h : Own B w v ys) (hb : Below B w0 w) (hg : w.grownBy w' v.ownBlock) (hB : B ≤ w.heap.size) : Below B w0 w' :=
  hb.grown hg hB fun k hk => (World.ownsRow.lt h k hk).1

end Go.Proofs.Ytmmfjknnbkcniaa
