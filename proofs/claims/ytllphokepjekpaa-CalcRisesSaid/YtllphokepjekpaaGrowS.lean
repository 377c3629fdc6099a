/- A list of samples that a call appends to: its own row. -/
import Derived.Test.YtllphokepjekpaaSamp
import Derived.Maps.AppendAt
import Derived.Deep.AppendLies
import Derived.Deep.RegionLaw
import Derived.WalkKit
import Derived.ProofKit
namespace Go.Proofs.Ytllphokepjekpaa
open Go.Fl Go.Rel Go.RowKit

def smpCells (s : Smp) : List Value := [.int .i64 s.t, .float .f64 s.v, .bool s.s]

theorem smpCells_length (ss : List Smp) : (ss.flatMap smpCells).length = ss.length * 3 := by
  induction ss with
  | nil => rfl
  | cons s ss ih => rw [List.flatMap_cons, List.length_append, ih]; simp [smpCells]; omega

theorem smpCells_get (ss : List Smp) (i c : Nat) (hi : i < ss.length) (hc : c < 3) : (ss.flatMap smpCells)[i * 3 + c]? = (smpCells (sAt ss i))[c]? := by
  induction ss generalizing i with
  | nil => simp at hi
  | cons s ss ih =>
    rw [List.flatMap_cons]
    cases i with
    | zero =>
      rw [List.getElem?_append_left (by simp [smpCells]; omega)]
      simp [sAt]
    | succ i =>
      rw [List.getElem?_append_right (by simp [smpCells]; omega)]
      have e : (i + 1) * 3 + c - (smpCells s).length = i * 3 + c := by simp [smpCells]; omega
      rw [e, ih i (by simpa using hi)]
      rfl

/-- A list under way: it lies in blocks from B on, and holds ss. -/
def OwnS (B : Nat) (w : World) (v : Value) (ss : List Smp) : Prop := w.ownsRow B 35 3 v ss.length (ss.flatMap smpCells)

theorem ownS_nil (B : Nat) (w : World) : OwnS B w (.slice none 0 0) [] := World.ownsRow_nil _ _ _ _
theorem OwnS.drewN {B : Nat} {w : World} {v : Value} {ss : List Smp} (h : OwnS B w v ss) (n : Nat) : OwnS B (w.drewN n) v ss := h
theorem OwnS.alloc {B : Nat} {w : World} {v : Value} {ss : List Smp} (h : OwnS B w v ss) (o : Obj) : OwnS B (w.alloc o) v ss := World.ownsRow.alloc h o

theorem OwnS.row {B : Nat} {w : World} {v : Value} {ss : List Smp} (h : OwnS B w v ss) (hb : ∀ i, -9223372036854775808 ≤ tS ss i ∧ tS ss i ≤ 9223372036854775807) : ∃ a cap, v = .slice a ss.length cap ∧ SRow w a ss.length ss := by
  have h0 := h
  obtain ⟨h1, h2⟩ := h
  rcases h2 with ⟨rfl, hn⟩ | ⟨g, cap, cur, rfl, hg, hbb, hn, hcap, hs, ht⟩
  · exact ⟨none, 0, by rw [hn], ⟨rfl, by omega, hb, fun h => by omega⟩⟩
  · refine ⟨_, _, rfl, rfl, by unfold maxLen at hcap; omega, hb, fun _ => ⟨g, 0, rfl, fun i hi => ?_⟩⟩
    have key : ∀ c u, c < 3 → (smpCells (sAt ss i))[c]? = some u → w.cell? ⟨g, 0 + i * 3 + c, none⟩ = some u := fun c u hc hu => by
      have := World.ownsRow.cells h0 (g := g) rfl (i * 3 + c) u (by rw [smpCells_get ss i c hi hc]; exact hu)
      rw [show (⟨g, 0, none⟩ : Addr).add (i * 3 + c) = ⟨g, 0 + i * 3 + c, none⟩ by unfold Addr.add; split <;> simp_all] at this
      exact this
    exact ⟨key 0 _ (by omega) rfl, key 1 _ (by omega) rfl, key 2 _ (by omega) rfl⟩

theorem info_smp : (Try.prog.info? 35).map (fun i => (i.zero, i.size, i.bytes)) = some (some (.agg #[.int .i64 0, .float .f64 0, .bool false]), 3, 24) := by kernel_rfl

/-- One sample more. -/
theorem wpList_append_s {ops : Array Oper} {rest : List Oper} {o : Oper} {a : Act} {Q : Exit → Act → World → Prop} {w : World} (hgd : o.guard = none) (s x : Operand)
    (ho : o.op = .call { callee := .builtin .append, args := #[s, x], argTypes := #[31, 31] })
    (B : Nat) (v : Value) (ss : List Smp) (hs : a.eval s = v) (hown : OwnS B w v ss) (b c : Nat) (y : Smp) (hx : a.eval x = .slice (some ⟨b, 0, none⟩) 1 c)
    (hy : w.cell? ⟨b, 0, none⟩ = some (.int .i64 y.t) ∧ w.cell? ⟨b, 1, none⟩ = some (.float .f64 y.v) ∧ w.cell? ⟨b, 2, none⟩ = some (.bool y.s))
    (hb : ss.length < 5864062014805) (hB : B ≤ w.heap.size)
    (h : ∀ v' w', OwnS B w' v' (ss ++ [y]) → w.grownBy w' v.ownBlock → (v'.ownBlock = v.ownBlock ∨ v'.ownBlock = some w.heap.size) → wpList Try.prog ops Q rest (a.put o.dst v') w') :
    wpList Try.prog ops Q (o :: rest) a w := by
  obtain ⟨i0, hi, hz0, hz1, hz2⟩ := info_parts info_smp
  refine wpList_append_own_at w hgd s x 31 ho B 35 i0 (.agg #[.int .i64 0, .float .f64 0, .bool false]) 3 24 Try.underlying31 hi hz0 hz1 hz2 rfl (by decide) v _ _ hs hown ⟨b, 0, none⟩ 1 c (smpCells y) hx rfl ?_ ?_ ?_ ?_ hB ?_
  · intro j u hj
    match j, hj with
    | 0, hj => simp [smpCells] at hj; subst hj; exact hy.1
    | 1, hj => simp [smpCells] at hj; subst hj; exact hy.2.1
    | 2, hj => simp [smpCells] at hj; subst hj; exact hy.2.2
  · intro u hu; simp [smpCells] at hu; rcases hu with rfl | rfl | rfl <;> rfl
  · unfold maxLen; omega
  · omega
  · intro v' w' h1 h2 _ h4
    refine h v' w' ?_ h2 h4
    unfold OwnS
    rw [List.length_append, List.flatMap_append]
    simpa using h1

/-- .. as one step of a region that draws its order. -/
theorem step_append_smp {ops : Array Oper} {o : Oper} {a : Act} {w : World} {K : Act → World → Prop} {Q : Exit → Act → World → Prop} {E : Prop} (hgd : o.guard = none) (s x : Operand)
    (ho : o.op = .call { callee := .builtin .append, args := #[s, x], argTypes := #[31, 31] })
    (B : Nat) (v : Value) (ss : List Smp) (hs : a.eval s = v) (hown : OwnS B w v ss) (b c : Nat) (y : Smp) (hx : a.eval x = .slice (some ⟨b, 0, none⟩) 1 c)
    (hy : w.cell? ⟨b, 0, none⟩ = some (.int .i64 y.t) ∧ w.cell? ⟨b, 1, none⟩ = some (.float .f64 y.v) ∧ w.cell? ⟨b, 2, none⟩ = some (.bool y.s))
    (hb : ss.length < 5864062014805) (hB : B ≤ w.heap.size)
    (h : ∀ g cap w', OwnS B w' (.slice (some ⟨g, 0, none⟩) (ss.length + 1) cap) (ss ++ [y]) → w.grownBy w' v.ownBlock → K (a.put o.dst (.slice (some ⟨g, 0, none⟩) (ss.length + 1) cap)) w') :
    if Region.wanted o (yielded ops a.tmps) = true then Oper.wp Try.prog o a w K Q else E := by
  obtain ⟨i0, hi, hz0, hz1, hz2⟩ := info_parts info_smp
  refine step_append_lies w hgd s x 31 ho B 35 i0 (.agg #[.int .i64 0, .float .f64 0, .bool false]) 3 24 Try.underlying31 hi hz0 hz1 hz2 rfl (by decide) v _ _ hs hown ⟨b, 0, none⟩ 1 c (smpCells y) hx rfl ?_ ?_ (by decide) ?_ ?_ hB w.heap.size rfl ?_
  · intro j u hj
    match j, hj with
    | 0, hj => simp [smpCells] at hj; subst hj; exact hy.1
    | 1, hj => simp [smpCells] at hj; subst hj; exact hy.2.1
    | 2, hj => simp [smpCells] at hj; subst hj; exact hy.2.2
  · intro u hu; simp [smpCells] at hu; rcases hu with rfl | rfl | rfl <;> rfl
  · unfold maxLen; omega
  · omega
  · intro g cap w' h1 h2 _ h4
    refine h g cap w' ?_ h2
    unfold OwnS
    rw [List.length_append, List.flatMap_append]
    simpa using h1

theorem OwnS.below {B : Nat} {w0 w w' : World} {v : Value} {ss : List Smp} (h : OwnS B w v ss) (hb : Below B w0 w) (hg : w.grownBy w' v.ownBlock) (hB : B ≤ w.heap.size) : Below B w0 w' :=
  hb.grown hg hB fun k hk => (World.ownsRow.lt h k hk).1

end Go.Proofs.Ytllphokepjekpaa
