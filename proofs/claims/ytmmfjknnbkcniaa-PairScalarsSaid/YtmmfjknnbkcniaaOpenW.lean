/- How an argument that is a slice of floats is opened: with its parts, its words of 64 bits. -/
import Derived.Test.YtmmfjknnbkcniaaRowF
import Derived.Test.YtmmfjknnbkcniaaSmallQ
namespace Go.Proofs.Ytmmfjknnbkcniaa
open Go.Fl Go.Rel Go.RowKit Go.ChangeShapes Go.WideShapes Go.Deep

section
variable {H : Type} {enc : TypeId × Value → H} {P : Program} {w : World} {spare : Nat → Bool} {held : Bool}

theorem w64_of {x : Nat} (h : x < 18446744073709551616) : W64 x := by
  unfold W64
  cases hx : isN x
  · rw [cn_of_notN hx]; exact h
  · rw [cn_of_N hx]; decide

/-- An argument of type []float64. -/
theorem open_floats_w {t e : TypeId} {v : Value} {r : Reach} {b0 : Nat} {d : DataW H} {ps : List MemPlace} (ht : P.underlying t = some (.slice e)) (he : P.underlying e = some (.float .f64)) (hc : P.cellsOf e = 1)
    (hval : Value.okWide P w r b0 t v) (hd : DataW.Trod enc P w 0 spare held t v d ps) : ∃ a n cap xs, v = .slice a n cap ∧ Row w a n xs ∧ SlOk a n cap ∧ ∀ x ∈ xs, W64 x := by
  obtain ⟨a0, len, cap, rfl⟩ := okWide_slice ht hval
  have hok := floats_ok ht hc hd
  obtain ⟨fuel, hf⟩ := hd
  rcases open_slice1 ht hc hf with ⟨hcs, _⟩ | ⟨a, len', cap', m, n, V, D, Pl, hcs, _, hl, hm, hmm, _, hx⟩
  · simp [Value.cells] at hcs
    obtain ⟨rfl, rfl, rfl⟩ := hcs
    exact ⟨_, _, _, [], rfl, ⟨rfl, by omega, fun h => by omega⟩, hok, fun x hx => by cases hx⟩
  · simp [Value.cells] at hcs
    obtain ⟨rfl, rfl, rfl⟩ := hcs
    have hle : len ≤ m := by rw [hmm]; split <;> omega
    obtain ⟨xs, hxl, hxp⟩ := exists_list len (fun i x => w.cell? (a.add i) = some (.float .f64 x) ∧ x < 18446744073709551616) (fun i hi => by
      obtain ⟨h1, h2⟩ := hx i (by omega)
      cases n with
      | zero => simp [DataW.trod] at h2
      | succ n =>
        simp only [DataW.trod, he] at h2
        cases hV : V i with
        | float k b =>
          rw [hV] at h1 h2
          cases k with
          | f64 =>
            refine ⟨b, h1, ?_⟩
            by_cases hw : (Lit.float .f64 b).wf = true
            · have : b < 2 ^ 64 := by simpa [Lit.wf] using hw
              omega
            · simp [hw] at h2
          | f32 => simp at h2
        | _ => rw [hV] at h2; simp at h2)
    refine ⟨_, _, _, xs, rfl, ⟨hxl, by unfold maxLen at hm; omega, fun hn => ?_⟩, hok, fun x hxm => ?_⟩
    · obtain ⟨b, off, spot⟩ := a
      have h0 := (hxp 0 hn).1
      have hspot : spot = none := by simpa [Addr.add] using World.cell?_spot h0
      subst hspot
      exact ⟨b, off, rfl, fun i hi => by simpa [Addr.add_lit] using (hxp i hi).1⟩
    · obtain ⟨i, hi, rfl⟩ := List.getElem_of_mem hxm
      have := (hxp i (by omega)).2
      simp [at0, List.getD, hi] at this
      exact w64_of this
end
end Go.Proofs.Ytmmfjknnbkcniaa
