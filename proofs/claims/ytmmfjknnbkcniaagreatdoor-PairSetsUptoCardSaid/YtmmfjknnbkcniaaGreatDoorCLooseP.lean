/- PairLoose, the plain law: elements that meet nothing. -/
import Derived.Test.YtmmfjknnbkcniaaGreatDoorCStrictP
namespace Go.Proofs.YtmmfjknnbkcniaaGreatDoor
open Go.Fl Go.Rel Go.RowKit Go.Sort
set_option linter.unusedSimpArgs false
set_option linter.unusedVariables false

def nearK (on : Bool) (ns : List ByteArray) (ml mr : List Ek) : List Ek := ml.filter fun x => meetsE on ns mr x
theorem part_isSome (on : Bool) (ns : List ByteArray) (mr : List Ek) (x : Ek) : (partK on ns mr x).isSome = meetsE on ns mr x := by
  unfold partK meetsE meetsK
  rw [Bool.eq_iff_iff, List.find?_isSome, List.any_map, List.any_eq_true]
  rfl
theorem meetsE_same {on : Bool} {ns : List ByteArray} {x y : Ek} (h : meetL on ns x.1 y.1 = true) (mr : List Ek) : meetsE on ns mr x = meetsE on ns mr y := by
  unfold meetsE meetsK
  congr 1
  funext b
  exact meet_same h b
theorem met_near (k : Nat) (on : Bool) (ns inc : List ByteArray) (card : Int) (yes : Bool) (ml mr : List Ek) :
    metL k on ns inc card yes (nearK on ns ml mr) mr = metL k on ns inc card yes ml mr := by
  unfold metL nearK
  rw [List.filterMap_filter]
  congr 1
  funext x
  cases h : meetsE on ns mr x
  · have h2 : partK on ns mr x = none := by
      have := part_isSome on ns mr x
      rw [h] at this
      cases hp : partK on ns mr x with
      | none => rfl
      | some y => rw [hp] at this; cases this
    unfold roundK
    rw [h2]; rfl
  · rfl
theorem mult_near (on : Bool) (ns : List ByteArray) (ml mr : List Ek) : multM on ns (nearK on ns ml mr) mr = multM on ns ml mr := by
  unfold multM nearK
  have hc : ∀ x, meetsE on ns mr x = true → (ml.filter fun y => meetsE on ns mr y).countP (fun y => meetL on ns x.1 y.1) = ml.countP fun y => meetL on ns x.1 y.1 := by
    intro x hx
    rw [List.countP_filter]
    refine List.countP_congr fun y hy => ?_
    constructor
    · intro h; rw [Bool.and_eq_true] at h; exact h.1
    · intro h
      rw [Bool.and_eq_true]
      exact ⟨h, by rw [← meetsE_same h]; exact hx⟩
  rw [Bool.eq_iff_iff, List.any_eq_true, List.any_eq_true]
  constructor
  · rintro ⟨x, hx, h⟩
    obtain ⟨h1, h2⟩ := List.mem_filter.1 hx
    rw [hc x h2] at h
    exact ⟨x, h1, h⟩
  · rintro ⟨x, hx, h⟩
    have h2 : meetsE on ns mr x = true := by
      rw [Bool.and_eq_true] at h
      rw [← part_isSome]; exact h.1
    refine ⟨x, List.mem_filter.2 ⟨hx, h2⟩, ?_⟩
    rw [hc x h2]; exact h
theorem metE_near (k : Nat) (on : Bool) (ns inc : List ByteArray) (card : Int) (yes : Bool) (ml mr : List Ek) :
    metE k on ns inc card yes (nearK on ns ml mr) mr = metE k on ns inc card yes ml mr ∧ metV k on ns inc card yes (nearK on ns ml mr) mr = metV k on ns inc card yes ml mr := by
  unfold metE metV
  rw [met_near, mult_near]; exact ⟨rfl, rfl⟩
theorem setL_and (on : Bool) (ns : List ByteArray) (ml mr : List Ek) : setL [97, 110, 100] on ns ml mr = nearK on ns ml mr := by
  unfold setL nearK
  rw [if_neg (by decide)]
  congr 1
  funext x
  cases meetsE on ns mr x <;> rfl
theorem near_near (on : Bool) (ns : List ByteArray) (ml mr : List Ek) : nearK on ns (nearK on ns ml mr) mr = nearK on ns ml mr := by
  unfold nearK
  rw [List.filter_filter]
  congr 1
  funext x
  cases meetsE on ns mr x <;> rfl
theorem vecs_near {u : List UInt8} (on : Bool) (ns inc : List ByteArray) {card : Int} (yes : Bool) {kl kr ml mr : List Ek} (hl : vecK kl = some ml) (hr : vecK kr = some mr) (ho : (u == [111, 114]) = false) (hu : (u == [117, 110, 108, 101, 115, 115]) = false) (hc : ¬ card = 2) :
    vecsE u on ns inc card yes (nearK on ns ml mr) kr = vecsE u on ns inc card yes kl kr ∧ vecsV u on ns inc card yes (nearK on ns ml mr) kr = vecsV u on ns inc card yes kl kr := by
  have hn : vecK (nearK on ns ml mr) = some (nearK on ns ml mr) := vecK_canon ((canon_of hl).filter _)
  have hs : setB u = true → u = [97, 110, 100] := fun h => by
    unfold setB at h
    rw [ho, hu] at h
    simpa using h
  unfold vecsE vecsV
  rw [hn, hl, hr]
  dsimp only
  rw [if_neg hc, if_neg hc, if_neg hc, if_neg hc, (metE_near _ on ns inc card yes ml mr).1, (metE_near _ on ns inc card yes ml mr).2]
  by_cases hb : setB u = true
  · have := hs hb
    subst this
    rw [setL_and, setL_and, near_near]; exact ⟨rfl, rfl⟩
  · exact ⟨by simp only [if_neg hb], by simp only [if_neg hb]⟩
/-- a refusal for the arguments' sake is the same for every operator -/
theorem vecs_five {u : List UInt8} {on : Bool} {ns inc : List ByteArray} {card : Int} {yes : Bool} {kl kr : List Ek} (h : vecK kl = none ∨ vecK kr = none) : vecsE u on ns inc card yes kl kr = 5 ∧ vecsV u on ns inc card yes kl kr = [] := by
  unfold vecsE vecsV
  rcases h with h | h
  · rw [h]; cases vecK kr <;> exact ⟨rfl, rfl⟩
  · rw [h]; cases vecK kl <;> exact ⟨rfl, rfl⟩
end Go.Proofs.YtmmfjknnbkcniaaGreatDoor
