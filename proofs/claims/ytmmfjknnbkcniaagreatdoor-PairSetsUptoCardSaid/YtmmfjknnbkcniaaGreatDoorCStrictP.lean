/- Vectors in canonical order: strictly sorted. -/
import Derived.Test.YtmmfjknnbkcniaaGreatDoorQ31
namespace Go.Proofs.YtmmfjknnbkcniaaGreatDoor
open Go.Fl Go.Rel Go.RowKit Go.Sort
set_option linter.unusedSimpArgs false
set_option linter.unusedVariables false

def Less (x y : Ek) : Prop := lcmp x.1 y.1 < 0
/-- A sound vector in canonical order. -/
def Canon (ms : List Ek) : Prop := ms.Pairwise Less ∧ ∀ k ∈ ms, validK k = true
theorem leK_iff (x y : Ek) : leK x y = true ↔ lcmp x.1 y.1 ≤ 0 := by unfold leK leL; exact decide_eq_true_iff
theorem less_of_le_lt {x y z : Ek} (h1 : Less x y) (h2 : lcmp y.1 z.1 ≤ 0) : Less x z := by
  rcases Int.lt_or_eq_of_le h2 with h | h
  · exact lcmp_trans h1 h
  · have := lcmp_zero.1 h
    unfold Less at *; rw [← this]; exact h1
theorem leL_both (a b : List Lb) : (leL a b || leL b a) = true := by
  unfold leL; rw [lcmp_swap a b]
  rcases Int.lt_or_le (lcmp a b) 0 with h | h
  · rw [decide_eq_true (by omega : lcmp a b ≤ 0)]; rfl
  · rw [decide_eq_true (by omega : - lcmp a b ≤ 0), Bool.or_true]
theorem sortK_le (ks : List Ek) : (sortK ks).Pairwise (fun x y => leK x y = true) :=
  List.pairwise_mergeSort (le := leK) (fun a b c h1 h2 => leL_trans _ _ _ h1 h2) (fun a b => leL_both _ _) ks
theorem strict_of : ∀ {ms : List Ek}, ms.Pairwise (fun x y => leK x y = true) → noDup ms = true → ms.Pairwise Less := by
  intro ms hp hd
  rw [List.pairwise_iff_getElem] at *
  intro i j hi hj hij
  unfold noDup at hd
  rw [List.all_eq_true] at hd
  have hk : ∀ (k : Nat) (h : k < ms.length), kAt ms k = ms[k] := fun k h => by simp [kAt, List.getD, h]
  have hstep : Less ms[i] ms[i + 1] := by
    have h1 := hd i (List.mem_range.2 (by omega))
    rw [hk i hi, hk (i + 1) (by omega)] at h1
    have h2 := (leK_iff _ _).1 (hp i (i + 1) hi (by omega) (by omega))
    have h3 : ¬ lcmp ms[i].1 ms[i + 1].1 = 0 := by simpa using h1
    unfold Less; omega
  by_cases hj1 : j = i + 1
  · subst hj1; exact hstep
  · exact less_of_le_lt hstep ((leK_iff _ _).1 (hp (i + 1) j (by omega) hj (by omega)))
theorem canon_of {ks ms : List Ek} (h : vecK ks = some ms) : Canon ms := by
  unfold vecK at h
  split at h
  · rename_i hh
    rw [Bool.and_eq_true] at hh
    injection h with h
    subst h
    refine ⟨strict_of (sortK_le ks) hh.2, fun k hk => ?_⟩
    exact List.all_eq_true.1 hh.1 k (List.mem_mergeSort.1 hk)
  · cases h
theorem canon_sort {ms : List Ek} (h : Canon ms) : sortK ms = ms :=
  List.mergeSort_of_pairwise (h.1.imp fun {x y} hxy => (leK_iff x y).2 (by unfold Less at hxy; omega))
theorem canon_nodup {ms : List Ek} (h : Canon ms) : noDup ms = true := by
  have hk : ∀ (k : Nat) (h : k < ms.length), kAt ms k = ms[k] := fun k h => by simp [kAt, List.getD, h]
  unfold noDup
  rw [List.all_eq_true]
  intro i hi
  have hi := List.mem_range.1 hi
  rw [hk i (by omega), hk (i + 1) (by omega)]
  have := List.pairwise_iff_getElem.1 h.1 i (i + 1) (by omega) (by omega) (by omega)
  unfold Less at this
  rw [decide_eq_false (by omega)]; rfl
/-- any order of a canonical vector's elements is sorted to it -/
theorem vecK_perm {ks ms : List Ek} (h : Canon ms) (hp : ks.Perm ms) : vecK ks = some ms := by
  have hs : sortK ks = ms := by
    refine List.Perm.eq_of_pairwise (le := fun x y => leK x y = true) (fun a b ha hb h1 h2 => ?_) (sortK_le ks) (h.1.imp fun {x y} hxy => (leK_iff x y).2 (by unfold Less at hxy; omega)) ((List.mergeSort_perm ks leK).trans hp)
    have ha : a ∈ ms := hp.subset (List.mem_mergeSort.1 ha)
    have e := (leK_iff _ _).1 h1
    have e2 := (leK_iff _ _).1 h2
    rw [lcmp_swap a.1 b.1] at e2
    -- two elements with the same labels of a strict list are one
    obtain ⟨i, hi, rfl⟩ := List.getElem_of_mem ha
    obtain ⟨j, hj, rfl⟩ := List.getElem_of_mem hb
    have hpw := List.pairwise_iff_getElem.1 h.1
    rcases Nat.lt_trichotomy i j with hl | hl | hl
    · have := hpw i j hi hj hl; unfold Less at this; omega
    · subst hl; rfl
    · have := hpw j i hj hi hl; unfold Less at this; rw [lcmp_swap ms[i].1 ms[j].1] at this; omega
  unfold vecK
  rw [hs]
  have hv : ks.all validK = true := List.all_eq_true.2 fun k hk => h.2 k (hp.subset hk)
  rw [hv, canon_nodup h]; rfl
theorem vecK_canon {ms : List Ek} (h : Canon ms) : vecK ms = some ms := vecK_perm h (List.Perm.refl _)
theorem Canon.filter {ms : List Ek} (h : Canon ms) (p : Ek → Bool) : Canon (ms.filter p) := ⟨h.1.filter p, fun k hk => h.2 k (List.mem_filter.1 hk).1⟩
theorem set_canon {ms : List Ek} (h : Canon ms) : setE ms = 0 ∧ setV ms = ms := by
  unfold setE setV; rw [vecK_canon h]; exact ⟨rfl, rfl⟩
theorem set_perm {ks ms : List Ek} (h : Canon ms) (hp : ks.Perm ms) : setE ks = 0 ∧ setV ks = ms := by
  unfold setE setV; rw [vecK_perm h hp]; exact ⟨rfl, rfl⟩
end Go.Proofs.YtmmfjknnbkcniaaGreatDoor
