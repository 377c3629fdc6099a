/- How an argument that is a slice of floats is opened, with its data's length. -/
import Derived.Test.YtllphokepjekpaaOpen
import Derived.SizedLaws
namespace Go.Proofs.Ytllphokepjekpaa
open Go.Fl Go.Rel Go.RowKit Go.ChangeShapes Go.WideShapes Go.Deep

section
variable {H : Type} {enc : TypeId × Value → H} {P : Program} {w : World} {spare : Nat → Bool} {held : Bool}

/-- Data of a slice of n elements. -/
def SliceOf (d : DataW H) (n : Nat) : Prop := n = 0 ∨ ∃ D S, d = .slice D S ∧ D.length = n

theorem slice_of {t e : TypeId} {d : DataW H} {ps : List MemPlace} {a : Option Addr} {n cap : Nat} (ht : P.underlying t = some (.slice e)) (hc : P.cellsOf e = 1)
    (hd : DataW.Trod enc P w 0 spare held t (.slice a n cap) d ps) : SliceOf d n := by
  obtain ⟨fuel, hf⟩ := hd
  rcases open_slice1 ht hc hf with ⟨hcs, _⟩ | ⟨a, len', cap', m, n, V, D, Pl, hcs, _, hl, hm, hmm, hxx, hx⟩
  · simp [Value.cells] at hcs
    exact .inl hcs.2.1
  · simp [Value.cells] at hcs
    obtain ⟨rfl, rfl, rfl⟩ := hcs
    injection hxx with h1 h2
    exact .inr ⟨_, _, h1, by simp⟩

theorem slice_of2 {t e : TypeId} {d : DataW H} {ps : List MemPlace} {a : Option Addr} {n cap : Nat} (ht : P.underlying t = some (.slice e))
    (hd : DataW.Trod enc P w 0 spare held t (.slice a n cap) d ps) : SliceOf d n := by
  obtain ⟨fuel, hf⟩ := hd
  rcases open_slice ht hf with ⟨hcs, _⟩ | ⟨a, len', cap', m, n, D, Pl, hcs, _, hl, hm, hmm, hxx, hx⟩
  · simp [Value.cells] at hcs
    exact .inl hcs.2.1
  · simp [Value.cells] at hcs
    obtain ⟨rfl, rfl, rfl⟩ := hcs
    injection hxx with h1 h2
    exact .inr ⟨_, _, h1, by simp⟩

theorem SliceOf.le {ts : List TypeId} {ds : List (DataW H)} {d : DataW H} {n : Nat} (h : SliceOf d n) (hs : (DataW.weightsEach P ts ds).all (· ≤ reachBytes) = true) {j : Nat} {t e : TypeId} (ht : ts[j]? = some t) (hd : ds[j]? = some d) (hu : P.underlying t = some (.slice e)) :
    n * P.bytesOf e ≤ reachBytes := by
  rcases h with rfl | ⟨D, S, rfl, hl⟩
  · simp
  · have := sized_slice hs ht hd hu
    refine Nat.le_trans (Nat.mul_le_mul_right _ ?_) this
    omega
end
end Go.Proofs.Ytllphokepjekpaa
