/- How arguments that are slices of floats are opened. -/
import Derived.Test.YtmmfjknnbkcniaaGreatSmall
import Derived.ProofKit
import Derived.OpenShut
import Derived.Deep.Slices
namespace Go.Proofs.YtmmfjknnbkcniaaGreat
open Go.Fl Go.Rel Go.RowKit Go.ChangeShapes Go.WideShapes Go.Deep

theorem exists_list (n : Nat) (p : Nat → Nat → Prop) (h : ∀ i, i < n → ∃ x, p i x) : ∃ xs : List Nat, xs.length = n ∧ ∀ i, i < n → p i (at0 xs i) := by
  induction n with
  | zero => exact ⟨[], rfl, fun i hi => by omega⟩
  | succ n ih =>
    obtain ⟨xs, hl, hp⟩ := ih fun i hi => h i (by omega)
    obtain ⟨x, hx⟩ := h n (by omega)
    refine ⟨xs ++ [x], by simp [hl], fun i hi => ?_⟩
    by_cases hin : i < n
    · have : at0 (xs ++ [x]) i = at0 xs i := by simp [at0, List.getD, List.getElem?_append_left (show i < xs.length by omega)]
      rw [this]; exact hp i hin
    · obtain rfl : i = n := by omega
      have : at0 (xs ++ [x]) i = x := by subst hl; simp [at0, List.getD]
      rw [this]; exact hx

section
variable {H : Type} {enc : TypeId × Value → H} {P : Program} {w : World} {spare : Nat → Bool} {held : Bool}

/-- An argument of type []float64. -/
theorem open_floats {t e : TypeId} {v : Value} {r : Reach} {b0 : Nat} {d : DataW H} {ps : List MemPlace} (ht : P.underlying t = some (.slice e)) (he : P.underlying e = some (.float .f64)) (hc : P.cellsOf e = 1)
    (hval : Value.okWide P w r b0 t v) (hd : DataW.Trod enc P w 0 spare held t v d ps) : ∃ a n cap xs, v = .slice a n cap ∧ Row w a n xs := by
  obtain ⟨a0, len, cap, rfl⟩ := okWide_slice ht hval
  obtain ⟨fuel, hf⟩ := hd
  rcases open_slice1 ht hc hf with ⟨hcs, _⟩ | ⟨a, len', cap', m, n, V, D, Pl, hcs, _, hl, hm, hmm, _, hx⟩
  · simp [Value.cells] at hcs
    obtain ⟨rfl, rfl, rfl⟩ := hcs
    exact ⟨_, _, _, [], rfl, rfl, by omega, fun h => by omega⟩
  · simp [Value.cells] at hcs
    obtain ⟨rfl, rfl, rfl⟩ := hcs
    have hle : len ≤ m := by rw [hmm]; split <;> omega
    obtain ⟨xs, hxl, hxp⟩ := exists_list len (fun i x => w.cell? (a.add i) = some (.float .f64 x)) (fun i hi => by
      obtain ⟨h1, h2⟩ := hx i (by omega)
      cases n with
      | zero => simp [DataW.trod] at h2
      | succ n =>
        simp only [DataW.trod, he] at h2
        cases hV : V i with
        | float k b =>
          rw [hV] at h1 h2
          cases k with
          | f64 => exact ⟨b, h1⟩
          | f32 => simp at h2
        | _ => rw [hV] at h2; simp at h2)
    refine ⟨_, _, _, xs, rfl, hxl, by unfold maxLen at hm; omega, fun hn => ?_⟩
    obtain ⟨b, off, spot⟩ := a
    have h0 := hxp 0 hn
    have hspot : spot = none := by simpa [Addr.add] using World.cell?_spot h0
    subst hspot
    exact ⟨b, off, rfl, fun i hi => by simpa [Addr.add_lit] using hxp i hi⟩

end
end Go.Proofs.YtmmfjknnbkcniaaGreat
