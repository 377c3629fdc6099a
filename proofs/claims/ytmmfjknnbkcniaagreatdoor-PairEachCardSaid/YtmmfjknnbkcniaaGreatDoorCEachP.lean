/- PairEach: the plain law. A product with minus one is the other sign; a vector with a number is each element's own answer. -/
import Derived.Test.YtmmfjknnbkcniaaGreatDoorCSidesP
namespace Go.Proofs.YtmmfjknnbkcniaaGreatDoor
open Go.Fl Go.Rel Go.RowKit Go.Sort Ieee
theorem neg_of {x : Nat} (h : x < 18446744073709551616) : Op.negFloat .f64 x = double.word (!sgn x) (rung x) := by
  have e := word_of h
  have hr : rung x < 9223372036854775808 := by unfold rung; omega
  refine (congrArg (Op.negFloat .f64) e).trans ?_
  have e0 : double.word false (rung x) = rung x := by rw [word_eq]; simp
  cases sgn x
  · rw [e0]; exact neg_pos hr
  · rw [neg_big hr]; exact e0.symm
theorem fmul_neg1 {x : Nat} (h : cn x < 18446744073709551616) : fmul (cn x) 13830554455654793216 = fneg (cn x) := by
  cases hN : isN x
  · have hc := cn_of_notN hN
    rw [hc] at h ⊢
    have e := word_of h
    have hr : rung x ≤ 9218868437227405312 := by rw [isN_iff] at hN; have := of_decide_eq_false hN; omega
    unfold fneg
    rw [hN, if_neg (by simp), neg_of h]
    by_cases hf : rung x < 9218868437227405312
    · rw [mul_fin hf (by unfold isF rung; decide)]
      have u1 : unitsOf (rung 13830554455654793216) = 2 ^ K := by decide +kernel
      rw [u1, show sgn 13830554455654793216 = true by decide +kernel, Bool.xor_true, Nat.le_antisymm (nrung_le (Nat.le_refl _)) (le_nrung hr (Nat.le_refl _))]
    · have hi : rung x = 9218868437227405312 := by omega
      rw [hi] at e ⊢
      generalize sgn x = s at e ⊢
      subst e
      cases s <;> decide +kernel
  · rw [cn_of_N hN]; decide +kernel
end Go.Proofs.YtmmfjknnbkcniaaGreatDoor
namespace Go.Proofs.YtmmfjknnbkcniaaGreatDoor
open Go.Fl Go.Rel Go.RowKit Go.Sort
set_option linter.unusedVariables false

def kM1 : Nat := 13830554455654793216
theorem step_neg (left yes : Bool) (e : Ek) (h : W64 e.2) : stepM 2 13830554455654793216 left yes e = some (stepN e) := by
  have h1 := fmul_neg1 h
  have h2 : fmul (cn e.2) (cn 13830554455654793216) = fneg (cn e.2) := by rw [show cn 13830554455654793216 = 13830554455654793216 by decide +kernel]; exact h1
  cases left
  · show some ((sansL MN e.1, fmul (cn e.2) (cn 13830554455654793216)) : Ek) = _
    rw [h2]; rfl
  · show some ((sansL MN e.1, fmul (cn 13830554455654793216) (cn e.2)) : Ek) = _
    rw [fmul_swap, h2]; rfl
theorem filt_map {α β : Type} (f : α → Option β) (g : α → β) : ∀ l : List α, (∀ a ∈ l, f a = some (g a)) → l.filterMap f = l.map g
  | [], _ => rfl
  | a :: l, h => by
    rw [List.filterMap_cons, h a List.mem_cons_self, List.map_cons]
    show g a :: _ = _
    rw [filt_map f g l fun b hb => h b (List.mem_cons_of_mem _ hb)]
theorem each_neg (left yes : Bool) (ks : List Ek) (h : ∀ k ∈ ks, W64 k.2) : mixE 2 13830554455654793216 left yes ks = negE ks ∧ mixV 2 13830554455654793216 left yes ks = negV ks := by
  unfold mixE mixV negE negV
  cases hv : vecK ks with
  | none => exact ⟨rfl, rfl⟩
  | some ms =>
    dsimp only
    rw [if_pos (by decide), if_pos (by decide), filt_map _ stepN ms fun k hk => step_neg left yes k (h k (vecK_mem hv k hk))]
    exact ⟨rfl, rfl⟩
/-- What becomes of an element where all are kept. -/
noncomputable def stepY (k x : Nat) (left : Bool) (e : Ek) : Ek := (sansL MN e.1, scS k (pickA left x e.2) (pickB left x e.2))
theorem step_yes {k : Nat} (hk : k < 12) (x : Nat) (left : Bool) (e : Ek) : stepM k x left true e = some (stepY k x left e) := by
  unfold stepM stepY stepO stepF stepV scS
  by_cases h : k < 6
  · simp [h]
  · simp [h, hk]
/-- The labels alone. -/
def barK (k : Ek) : Ek := (k.1, 0)
theorem bar_vec (ks : List Ek) : (vecK ks).map (List.map barK) = vecK (ks.map barK) := by
  have h1 : (sortK ks).map barK = sortK (ks.map barK) := by unfold sortK; exact List.map_mergeSort fun a _ b _ => rfl
  have h2 : ∀ ks : List Ek, noDup (ks.map barK) = noDup ks := fun ks => by
    unfold noDup
    rw [List.length_map]
    congr 1
    funext i
    have h : ∀ i, (kAt (ks.map barK) i).1 = (kAt ks i).1 := fun i => by
      unfold kAt
      simp only [List.getD, List.getElem?_map]
      cases ks[i]? <;> rfl
    rw [h, h]
  unfold vecK
  rw [← h1, h2, List.all_map, show (validK ∘ barK) = validK from rfl]
  split <;> rfl
theorem setE_bar {ks ls : List Ek} (h : ks.map barK = ls.map barK) : setE ks = setE ls := by
  have h1 := bar_vec ks
  have h2 := bar_vec ls
  rw [h] at h1
  unfold setE
  cases hk : vecK ks <;> cases hl : vecK ls <;> rw [hk] at h1 <;> rw [hl] at h2 <;> rw [← h1] at h2 <;> first | rfl | cases h2
/-- What Each answers: the cases of Mixed where all are kept. -/
theorem each_bad {k : Nat} (hk : ¬ k < 12) (x : Nat) (left : Bool) {ks ms : List Ek} (hv : vecK ks = some ms) : mixE k x left true ks = 7 ∧ mixV k x left true ks = [] := by
  unfold mixE mixV
  rw [hv]
  dsimp only
  rw [if_neg hk, if_neg hk]
  exact ⟨rfl, rfl⟩
theorem each_none {k x : Nat} {left : Bool} {ks : List Ek} (hv : vecK ks = none) : mixE k x left true ks = 5 ∧ mixV k x left true ks = [] := by
  unfold mixE mixV
  rw [hv]
  exact ⟨rfl, rfl⟩
theorem each_good {k : Nat} (hk : k < 12) (x : Nat) (left : Bool) {ks ms : List Ek} (hv : vecK ks = some ms) :
    mixE k x left true ks = negE ks ∧ ((vecK (ms.map (stepY k x left)) = none ∧ negE ks = 6 ∧ mixV k x left true ks = []) ∨ ∃ ls, vecK (ms.map (stepY k x left)) = some ls ∧ negE ks = 0 ∧ mixV k x left true ks = ls) := by
  have hE : mixE k x left true ks = setE (ms.map (stepY k x left)) := by
    unfold mixE; rw [hv]; dsimp only; rw [if_pos hk, filt_map _ _ ms fun e _ => step_yes hk x left e]
  have hV : mixV k x left true ks = setV (ms.map (stepY k x left)) := by
    unfold mixV; rw [hv]; dsimp only; rw [if_pos hk, filt_map _ _ ms fun e _ => step_yes hk x left e]
  have hN : negE ks = setE (ms.map (stepY k x left)) := by
    unfold negE; rw [hv]; dsimp only
    exact setE_bar (by rw [List.map_map, List.map_map]; rfl)
  refine ⟨hE.trans hN.symm, ?_⟩
  rw [hN, hV]
  unfold setE setV
  cases vecK (ms.map (stepY k x left)) with
  | none => exact .inl ⟨rfl, rfl, rfl⟩
  | some ls => exact .inr ⟨ls, rfl, rfl, rfl⟩
end Go.Proofs.YtmmfjknnbkcniaaGreatDoor
