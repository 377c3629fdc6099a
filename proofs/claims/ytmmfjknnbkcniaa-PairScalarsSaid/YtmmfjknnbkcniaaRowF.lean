/- Rows of floats: parts of them; a whole row appended. -/
import Derived.Test.YtmmfjknnbkcniaaGrow
import Derived.Test.YtmmfjknnbkcniaaOpen
import Derived.Laws.AppendOwnNone
import Derived.KernelRfl
namespace Go.Proofs.Ytmmfjknnbkcniaa
open Go.Fl Go.Rel Go.RowKit Go.ChangeShapes Go.WideShapes Go.Deep

/-- A slice's parts fit. -/
def SlOk (a : Option Addr) (n cap : Nat) : Prop := n ≤ cap ∧ (a = none → cap = 0)

theorem at0_drop (xs : List Nat) (k i : Nat) : at0 (xs.drop k) i = at0 xs (k + i) := by simp [at0, List.getD]
theorem at0_take (xs : List Nat) {k i : Nat} (h : i < k) : at0 (xs.take k) i = at0 xs i := by simp [at0, List.getD, h]
theorem at0_cons (x : Nat) (xs : List Nat) (i : Nat) : at0 (x :: xs) (i + 1) = at0 xs i := by simp [at0, List.getD]
theorem at0_zero (x : Nat) (xs : List Nat) : at0 (x :: xs) 0 = x := rfl

theorem Row.take {w : World} {a : Option Addr} {n : Nat} {xs : List Nat} (h : Row w a n xs) {k : Nat} (hk : k ≤ n) : Row w a k (xs.take k) := by
  obtain ⟨h1, h2, h3⟩ := h
  refine ⟨by simp; omega, by omega, fun h0 => ?_⟩
  obtain ⟨b, off, ha, hc⟩ := h3 (by omega)
  exact ⟨b, off, ha, fun i hi => by rw [hc i (by omega), at0_take xs hi]⟩

theorem Row.drop {w : World} {b off n : Nat} {xs : List Nat} (h : Row w (some ⟨b, off, none⟩) n xs) {k : Nat} (hk : k ≤ n) : Row w (some ⟨b, off + k, none⟩) (n - k) (xs.drop k) := by
  obtain ⟨h1, h2, h3⟩ := h
  refine ⟨by simp; omega, by omega, fun h0 => ?_⟩
  obtain ⟨b', off', ha, hc⟩ := h3 (by omega)
  cases ha
  refine ⟨_, _, rfl, fun i hi => ?_⟩
  rw [Nat.add_assoc, hc (k + i) (by omega), at0_drop]

theorem Row.tail {w : World} {b off n : Nat} {x : Nat} {xs : List Nat} (h : Row w (some ⟨b, off, none⟩) (n + 1) (x :: xs)) : Row w (some ⟨b, off + 1, none⟩) n xs := by
  have := h.drop (k := 1) (by omega)
  simpa using this

theorem Row.nothing {w : World} (a : Option Addr) : Row w a 0 [] := ⟨rfl, by omega, fun h => by omega⟩

theorem Row.head {w : World} {a : Option Addr} {n : Nat} {x : Nat} {xs : List Nat} (h : Row w a (n + 1) (x :: xs)) : ∃ b off, a = some ⟨b, off, none⟩ ∧ b < w.heap.size ∧ w.cell? ⟨b, off, none⟩ = some (.float .f64 x) := by
  obtain ⟨h1, h2, h3⟩ := h
  obtain ⟨b, off, ha, hc⟩ := h3 (by omega)
  have := hc 0 (by omega)
  exact ⟨b, off, ha, World.block_lt_of_cell? w _ this, this⟩

theorem Own.row' {B : Nat} {w : World} {v : Value} {ys : List Nat} (h : Own B w v ys) : ∃ a cap, v = .slice a ys.length cap ∧ SlOk a ys.length cap ∧ Row w a ys.length ys := by
  obtain ⟨a, cap, hv, hr⟩ := h.row
  refine ⟨a, cap, hv, ?_, hr⟩
  rcases h.2 with ⟨h1, h2⟩ | ⟨g, cap', cur, h1, _, _, h2, _⟩
  · rw [hv] at h1
    injection h1 with e1 e2 e3
    exact ⟨by omega, fun _ => e3⟩
  · rw [hv] at h1
    injection h1 with e1 e2 e3
    exact ⟨by omega, fun h => by rw [h] at e1; cases e1⟩

theorem own_made (w : World) : Own w.heap.size (w.alloc (.cells #[] 22)) (.slice (some ⟨w.heap.size, 0, none⟩) 0 0) [] := World.ownsRow_made w #[] 0 (Nat.le_refl _) (by decide) rfl

section
variable {H : Type} {enc : TypeId × Value → H} {P : Program} {w : World} {spare : Nat → Bool} {held : Bool}
/-- An argument of type []float64, with its parts. -/
theorem floats_ok {t e : TypeId} {a : Option Addr} {n cap : Nat} {d : DataW H} {ps : List MemPlace} (ht : P.underlying t = some (.slice e)) (hc : P.cellsOf e = 1)
    (hd : DataW.Trod enc P w 0 spare held t (.slice a n cap) d ps) : SlOk a n cap := by
  obtain ⟨fuel, hf⟩ := hd
  rcases open_slice1 ht hc hf with ⟨hcs, _⟩ | ⟨a, len', cap', m, n, V, D, Pl, hcs, _, hl, hm, hmm, _, hx⟩
  · simp [Value.cells] at hcs
    obtain ⟨rfl, rfl, rfl⟩ := hcs
    exact ⟨Nat.le_refl _, fun _ => rfl⟩
  · simp [Value.cells] at hcs
    obtain ⟨rfl, rfl, rfl⟩ := hcs
    exact ⟨hl, fun h => by cases h⟩
end
end Go.Proofs.Ytmmfjknnbkcniaa
