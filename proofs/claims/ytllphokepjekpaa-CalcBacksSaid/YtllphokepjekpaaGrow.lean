/- A list of floats that a call appends to: its own row. -/
import Derived.Test.YtllphokepjekpaaSmall
import Derived.Maps.AppendAt
import Derived.WalkKit
import Derived.ProofKit
namespace Go.Proofs.Ytllphokepjekpaa
open Go.Fl Go.Rel Go.RowKit

/-- A list under way: it lies in blocks from B on, and holds ys. -/
def Own (B : Nat) (w : World) (v : Value) (ys : List Nat) : Prop := w.ownsRow B 23 1 v ys.length (ys.map (Value.float .f64))

theorem own_nil (B : Nat) (w : World) : Own B w (.slice none 0 0) [] := World.ownsRow_nil _ _ _ _

theorem Own.drewN {B : Nat} {w : World} {v : Value} {ys : List Nat} (h : Own B w v ys) (n : Nat) : Own B (w.drewN n) v ys := h
theorem Own.alloc {B : Nat} {w : World} {v : Value} {ys : List Nat} (h : Own B w v ys) (o : Obj) : Own B (w.alloc o) v ys := World.ownsRow.alloc h o

/-- Another's row stays. -/
theorem Own.kept {B : Nat} {w w' : World} {v : Value} {ys : List Nat} {row : Option Nat} (h : Own B w v ys) (hg : w.grownBy w' row) (hne : v.ownBlock = none ∨ v.ownBlock ≠ row) : Own B w' v ys := World.ownsRow.kept h hg hne

/-- A store outside it. -/
theorem Own.setCell {B : Nat} {w : World} {v : Value} {ys : List Nat} (h : Own B w v ys) {a : Addr} (ha : a.block < B) (u : Value) : Own B (w.setCell a u) v ys := ownsRow_setCell_below h ha u

theorem Own.row {B : Nat} {w : World} {v : Value} {ys : List Nat} (h : Own B w v ys) : ∃ a cap, v = .slice a ys.length cap ∧ Row w a ys.length ys := by
  have h0 := h
  obtain ⟨h1, h2⟩ := h
  rcases h2 with ⟨rfl, hn⟩ | ⟨g, cap, cur, rfl, hg, hb, hn, hcap, hs, ht⟩
  · refine ⟨none, 0, by rw [hn], ⟨rfl, by omega, fun h => by omega⟩⟩
  · refine ⟨_, _, rfl, rfl, by unfold maxLen at hcap; omega, fun _ => ⟨g, 0, rfl, fun i hi => ?_⟩⟩
    have := World.ownsRow.cells h0 (g := g) rfl i (.float .f64 (at0 ys i)) (by simp [at0, List.getD, hi])
    rw [show (⟨g, 0, none⟩ : Addr).add i = ⟨g, 0 + i, none⟩ by unfold Addr.add; split <;> simp_all] at this
    exact this

theorem info_f : (Try.prog.info? 23).map (fun i => (i.zero, i.size, i.bytes)) = some (some (.float .f64 0), 1, 8) := by kernel_rfl

/-- One number more. -/
theorem wpList_append_f {ops : Array Oper} {rest : List Oper} {o : Oper} {a : Act} {Q : Exit → Act → World → Prop} {w : World} (hgd : o.guard = none) (s x : Operand)
    (ho : o.op = .call { callee := .builtin .append, args := #[s, x], argTypes := #[22, 22] })
    (B : Nat) (v : Value) (ys : List Nat) (hs : a.eval s = v) (hown : Own B w v ys) (ad : Addr) (c y : Nat) (hx : a.eval x = .slice (some ad) 1 c) (hy : w.cell? ad = some (.float .f64 y))
    (hb : ys.length < 17592186044416) (hB : B ≤ w.heap.size)
    (h : ∀ v' w', Own B w' v' (ys ++ [y]) → w.grownBy w' v.ownBlock → (v'.ownBlock = v.ownBlock ∨ v'.ownBlock = some w.heap.size) → wpList Try.prog ops Q rest (a.put o.dst v') w') :
    wpList Try.prog ops Q (o :: rest) a w := by
  obtain ⟨i0, hi, hz0, hz1, hz2⟩ := info_parts info_f
  refine wpList_append_own_at w hgd s x 22 ho B 23 i0 (.float .f64 0) 1 8 Try.underlying22 hi hz0 hz1 hz2 rfl (by decide) v _ _ hs hown ad 1 c [.float .f64 y] hx rfl ?_ ?_ ?_ ?_ hB ?_
  · intro j u hj
    match j, hj with
    | 0, hj =>
      simp at hj; subst hj
      have : ad.add 0 = ad := by simp [Addr.add]
      rw [this]; exact hy
  · intro u hu; simp at hu; subst hu; rfl
  · unfold maxLen; omega
  · omega
  · intro v' w' h1 h2 _ h4
    refine h v' w' ?_ h2 h4
    unfold Own
    rw [List.length_append, List.map_append]
    exact h1

/-- What was there ahead of B stays, behind an append. -/
theorem Own.below {B : Nat} {w0 w w' : World} {v : Value} {ys : List Nat} (h : Own B w v ys) (hb : Below B w0 w) (hg : w.grownBy w' v.ownBlock) (hB : B ≤ w.heap.size) : Below B w0 w' :=
  hb.grown hg hB fun k hk => (World.ownsRow.lt h k hk).1

end Go.Proofs.Ytllphokepjekpaa
