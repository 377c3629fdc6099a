/- How an argument that is a slice of int64 is opened. -/
import Derived.Test.YtllphokepjekpaaLawWholes
import Derived.ProofKit
import Derived.OpenShut
namespace Go.Proofs.Ytllphokepjekpaa
open Go.Fl Go.Rel Go.RowKit Go.ChangeShapes Go.WideShapes

theorem open_int64s {H : Type} {enc : TypeId × Value → H} {P : Program} {w : World} {t e : TypeId} {v : Value} {r : Reach} {b0 : Nat} {d : DataW H} {ps : List MemPlace} (ht : P.underlying t = some (.slice e)) (he : P.underlying e = some (.int .i64)) (hc : P.cellsOf e = 1)
    (hval : Value.okWide P w r b0 t v) (hd : DataW.Trod enc P w 0 (fun _ => true) true t v d ps) : ∃ a n cap zs, v = .slice a n cap ∧ RowI w a n zs := by
  obtain ⟨a0, len, cap, rfl⟩ := okWide_slice ht hval
  obtain ⟨fuel, hf⟩ := hd
  have hz0 : ∀ i, -9223372036854775808 ≤ ([] : List Int).getD i 0 ∧ ([] : List Int).getD i 0 ≤ 9223372036854775807 := fun i => by simp
  rcases open_ints ht he hc hf with ⟨hcs, hx⟩ | ⟨a, len', cap', zs, hcs, _, hl, hm, hz, hx, hcell, hwz⟩
  · simp [Value.cells] at hcs
    obtain ⟨rfl, rfl, rfl⟩ := hcs
    exact ⟨_, _, _, [], rfl, rfl, by omega, hz0, fun h => by omega⟩
  · simp [Value.cells] at hcs
    obtain ⟨rfl, rfl, rfl⟩ := hcs
    simp only [if_true] at hz
    have htk : ∀ i, i < len → (zs.take len).getD i 0 = zs.getD i 0 := fun i hi => by simp [List.getD, hi]
    refine ⟨_, _, _, zs.take len, rfl, by rw [List.length_take]; omega, by unfold maxLen at hm; omega, fun i => ?_, fun hn => ?_⟩
    · by_cases hi : i < len
      · rw [htk i hi]
        have hmem : zs.getD i 0 ∈ zs := by
          have : i < zs.length := by omega
          simp [List.getD, this]
        have := hwz _ hmem
        simpa [Lit.wf, IntKind.min, IntKind.max, IntKind.signed, IntKind.bits] using this
      · have : (zs.take len).getD i 0 = 0 := by simp [List.getD, List.getElem?_take, hi]
        rw [this]; omega
    · obtain ⟨b, off, spot⟩ := a
      have hspot : spot = none := by simpa [Addr.add] using World.cell?_spot (hcell 0 (by omega))
      subst hspot
      refine ⟨b, off, rfl, fun i hi => ?_⟩
      rw [htk i hi]
      simpa [Addr.add_lit] using hcell i (by omega)

end Go.Proofs.Ytllphokepjekpaa
