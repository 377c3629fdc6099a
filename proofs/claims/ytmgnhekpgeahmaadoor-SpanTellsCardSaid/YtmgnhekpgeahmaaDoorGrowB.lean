/- A list of bytes that a call appends to: its own row. -/
import Derived.Test.YtmgnhekpgeahmaaDoorStep
import Derived.Test.YtmgnhekpgeahmaaDoorProg
import Derived.Maps.AppendAt
import Derived.Deep.AppendLies
import Derived.Deep.RegionHeld3
import Derived.Lib.UnsafeStr
import Derived.Laws.IdiomStrings
import Derived.OwnWalk
import Derived.WalkKit
import Derived.ProofKit
namespace Go.Proofs.YtmgnhekpgeahmaaDoor
open Go.Fl Go.Rel Go.RowKit

/-- A list of bytes under way: it lies in blocks from B on, and holds l. -/
def OwnB (B : Nat) (w : World) (v : Value) (l : List UInt8) : Prop := w.ownsRow B 5 1 v l.length (Lib.byteCells l)

theorem ownB_nil (B : Nat) (w : World) : OwnB B w (.slice none 0 0) [] := World.ownsRow_nil _ _ _ _
theorem OwnB.drewN {B : Nat} {w : World} {v : Value} {l : List UInt8} (h : OwnB B w v l) (n : Nat) : OwnB B (w.drewN n) v l := h
theorem OwnB.alloc {B : Nat} {w : World} {v : Value} {l : List UInt8} (h : OwnB B w v l) (o : Obj) : OwnB B (w.alloc o) v l := World.ownsRow.alloc h o
theorem OwnB.below {B : Nat} {w0 w w' : World} {v : Value} {l : List UInt8} (h : OwnB B w v l) (hb : Below B w0 w) (hg : w.grownBy w' v.ownBlock) (hB : B ≤ w.heap.size) : Below B w0 w' :=
  hb.grown hg hB fun k hk => (World.ownsRow.lt h k hk).1

theorem info_b : (Tryd.prog.info? 5).map (fun i => (i.zero, i.size, i.bytes)) = some (some (.int .u8 0), 1, 1) := by kernel_rfl

/-- Some bytes more. -/
theorem wpList_append_b {ops : Array Oper} {rest : List Oper} {o : Oper} {a : Act} {Q : Exit → Act → World → Prop} {w : World} (hgd : o.guard = none) (s x : Operand)
    (ho : o.op = .call { callee := .builtin .append, args := #[s, x], argTypes := #[36, 36] })
    (B : Nat) (v : Value) (l : List UInt8) (hs : a.eval s = v) (hown : OwnB B w v l) (b c : Nat) (ys : List UInt8) (m : Nat) (hm : ys.length = m) (hx : a.eval x = .slice (some ⟨b, 0, none⟩) m c)
    (hy : ∀ j y, ys[j]? = some y → w.cell? ⟨b, j, none⟩ = some (.int .u8 (y.toNat : Int)))
    (hb : l.length + m ≤ 140737488355328) (hB : B ≤ w.heap.size)
    (h : ∀ v' w', OwnB B w' v' (l ++ ys) → w.grownBy w' v.ownBlock → (v'.ownBlock = v.ownBlock ∨ v'.ownBlock = some w.heap.size) → wpList Tryd.prog ops Q rest (a.put o.dst v') w') :
    wpList Tryd.prog ops Q (o :: rest) a w := by
  obtain ⟨i0, hi, hz0, hz1, hz2⟩ := info_parts info_b
  subst hm
  refine wpList_append_own_at w hgd s x 36 ho B 5 i0 (.int .u8 0) 1 1 Tryd.underlying36 hi hz0 hz1 hz2 rfl (by decide) v _ _ hs hown ⟨b, 0, none⟩ ys.length c (Lib.byteCells ys) hx (by rw [Lib.byteCells_length, Nat.mul_one]) ?_ ?_ ?_ ?_ hB ?_
  · intro j u hj
    rw [show (⟨b, 0, none⟩ : Addr).add j = ⟨b, j, none⟩ by unfold Addr.add; split <;> simp_all]
    unfold Lib.byteCells at hj
    rw [List.getElem?_map] at hj
    obtain ⟨y, hy1, hy2⟩ := Option.map_eq_some_iff.1 hj
    rw [← hy2]
    exact hy j y hy1
  · intro u hu
    unfold Lib.byteCells at hu
    obtain ⟨y, _, rfl⟩ := List.mem_map.1 hu
    rfl
  · unfold maxLen; omega
  · omega
  · intro v' w' h1 h2 _ h4
    refine h v' w' ?_ h2 h4
    unfold OwnB
    rw [List.length_append, Lib.byteCells_append]
    exact h1

/-- .. as one step of a region that draws its order. -/
theorem step_append_b {ops : Array Oper} {o : Oper} {a : Act} {w : World} {K : Act → World → Prop} {Q : Exit → Act → World → Prop} {E : Prop} (hgd : o.guard = none) (s x : Operand)
    (ho : o.op = .call { callee := .builtin .append, args := #[s, x], argTypes := #[36, 36] })
    (B : Nat) (v : Value) (l : List UInt8) (hs : a.eval s = v) (hown : OwnB B w v l) (b c : Nat) (ys : List UInt8) (m : Nat) (hm : ys.length = m) (hm0 : 0 < m) (hx : a.eval x = .slice (some ⟨b, 0, none⟩) m c)
    (hy : ∀ j y, ys[j]? = some y → w.cell? ⟨b, j, none⟩ = some (.int .u8 (y.toNat : Int)))
    (hb : l.length + m ≤ 140737488355328) (hB : B ≤ w.heap.size)
    (h : ∀ g cap w', OwnB B w' (.slice (some ⟨g, 0, none⟩) (l.length + m) cap) (l ++ ys) → w.grownBy w' v.ownBlock → K (a.put o.dst (.slice (some ⟨g, 0, none⟩) (l.length + m) cap)) w') :
    if Region.wanted o (yielded ops a.tmps) = true then Oper.wp Tryd.prog o a w K Q else E := by
  obtain ⟨i0, hi, hz0, hz1, hz2⟩ := info_parts info_b
  subst hm
  refine step_append_lies w hgd s x 36 ho B 5 i0 (.int .u8 0) 1 1 Tryd.underlying36 hi hz0 hz1 hz2 rfl (by decide) v _ _ hs hown ⟨b, 0, none⟩ ys.length c (Lib.byteCells ys) hx (by rw [Lib.byteCells_length, Nat.mul_one]) ?_ ?_ hm0 ?_ ?_ hB w.heap.size rfl ?_
  · intro j u hj
    rw [show (⟨b, 0, none⟩ : Addr).add j = ⟨b, j, none⟩ by unfold Addr.add; split <;> simp_all]
    unfold Lib.byteCells at hj
    rw [List.getElem?_map] at hj
    obtain ⟨y, hy1, hy2⟩ := Option.map_eq_some_iff.1 hj
    rw [← hy2]
    exact hy j y hy1
  · intro u hu
    unfold Lib.byteCells at hu
    obtain ⟨y, _, rfl⟩ := List.mem_map.1 hu
    rfl
  · unfold maxLen; omega
  · omega
  · intro g cap w' h1 h2 _ h4
    refine h g cap w' ?_ h2
    unfold OwnB
    rw [List.length_append, Lib.byteCells_append]
    exact h1

/-- A new block of bytes: what its cells hold. -/
theorem byte_one (w : World) (z : Int) (y : UInt8) (t : TypeId) (hz : z = (y.toNat : Int)) : ∀ j u, [y][j]? = some u → (w.alloc (.cells #[.int .u8 z] t)).cell? ⟨w.heap.size, j, none⟩ = some (.int .u8 (u.toNat : Int)) := by
  intro j u hj
  match j, hj with
  | 0, hj => simp at hj; subst hj; rw [World.cell?_alloc_at _ _ _ _ rfl, hz]; rfl
theorem byte_four (w : World) (z0 z1 z2 z3 : Int) (y0 y1 y2 y3 : UInt8) (t : TypeId) (h0 : z0 = (y0.toNat : Int)) (h1 : z1 = (y1.toNat : Int)) (h2 : z2 = (y2.toNat : Int)) (h3 : z3 = (y3.toNat : Int)) :
    ∀ j u, [y0, y1, y2, y3][j]? = some u → (w.alloc (.cells #[.int .u8 z0, .int .u8 z1, .int .u8 z2, .int .u8 z3] t)).cell? ⟨w.heap.size, j, none⟩ = some (.int .u8 (u.toNat : Int)) := by
  intro j u hj
  match j, hj with
  | 0, hj => simp at hj; subst hj; rw [World.cell?_alloc_at _ _ _ _ rfl, h0]; rfl
  | 1, hj => simp at hj; subst hj; rw [World.cell?_alloc_at _ _ _ _ rfl, h1]; rfl
  | 2, hj => simp at hj; subst hj; rw [World.cell?_alloc_at _ _ _ _ rfl, h2]; rfl
  | 3, hj => simp at hj; subst hj; rw [World.cell?_alloc_at _ _ _ _ rfl, h3]; rfl

/-- The bytes as a string. -/
theorem OwnB.text {B : Nat} {w : World} {v : Value} {l : List UInt8} (h : OwnB B w v l) (hn : l ≠ []) : (convert 36 9 v).run Tryd.prog w = .ok (.string ⟨l.toArray⟩) w := by
  have hpos : 0 < l.length := List.length_pos_iff.2 hn
  unfold OwnB at h
  rcases h.2 with ⟨-, h0⟩ | ⟨g, cap, cur, rfl, -, -, -, -, -, -⟩
  · omega
  · exact run_convert_bytes_back (P := Tryd.prog) w 36 9 5 ⟨g, 0, none⟩ cap l Tryd.underlying36 Tryd.underlying5 Tryd.underlying9 (fun j hj => h.cells (g := g) rfl j _ (by simp [Lib.byteCells, hj]))

theorem OwnB.form {B : Nat} {w : World} {v : Value} {l : List UInt8} (h : OwnB B w v l) (hn : l ≠ []) : ∃ g cap, v = .slice (some ⟨g, 0, none⟩) l.length cap ∧ B ≤ g ∧ l.length ≤ cap ∧ ∀ j (hj : j < l.length), w.cell? ⟨g, j, none⟩ = some (.int .u8 (l[j].toNat : Int)) := by
  have hpos : 0 < l.length := List.length_pos_iff.2 hn
  have h0 := h
  unfold OwnB at h
  obtain ⟨h1, h2⟩ := h
  rcases h2 with ⟨-, h0⟩ | ⟨g, cap, cur, rfl, hg, hb, hlc, _⟩
  · omega
  · refine ⟨g, cap, rfl, by omega, by omega, fun j hj => ?_⟩
    have := World.ownsRow.cells h0 (g := g) rfl j (.int .u8 (l[j].toNat : Int)) (by simp [Lib.byteCells, hj])
    rw [show (⟨g, 0, none⟩ : Addr).add j = ⟨g, j, none⟩ by unfold Addr.add; split <;> simp_all] at this
    exact this
end Go.Proofs.YtmgnhekpgeahmaaDoor
