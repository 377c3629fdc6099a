/- Outermost values are values of points: the plain law. -/
import Derived.Test.YtoeldcgclaiokaaRatP
namespace Go.Proofs.Ytoeldcgclaiokaa
open Go.Fl Go.Rel Go.RowKit Ieee
set_option linter.unusedVariables false
set_option linter.unusedSimpArgs false

/-- Is c among the first k? -/
def fnd (c : Nat) (vs : List Nat) : Nat → Bool
  | 0 => false
  | k + 1 => fnd c vs k || (c == at0 vs k)
theorem fnd_of {c : Nat} {vs : List Nat} {j : Nat} (h : c = at0 vs j) : ∀ {k : Nat}, j < k → fnd c vs k = true
  | 0, hj => by omega
  | k + 1, hj => by
    unfold fnd
    by_cases e : j = k
    · subst e; rw [h]; simp
    · rw [fnd_of h (k := k) (by omega)]; rfl

theorem most_mem (vs : List Nat) (up : Bool) : ∀ k, ∃ j, j ≤ k ∧ mostT vs up k = at0 vs j
  | 0 => ⟨0, Nat.le_refl _, rfl⟩
  | k + 1 => by
    obtain ⟨j, h1, h2⟩ := most_mem vs up k
    unfold mostT
    split
    · exact ⟨k + 1, Nat.le_refl _, rfl⟩
    · exact ⟨j, by omega, h2⟩

/-- The order that leads: up or down. -/
def ov (up : Bool) (x y : Nat) : Bool := if up = true then ford x y == some .gt else ford x y == some .lt
theorem ov_nn {up : Bool} {x y : Nat} (h : ov up x y = true) : isN x = false ∧ isN y = false := by
  unfold ov at h
  cases ho : ford x y with
  | none => rw [ho] at h; split at h <;> cases h
  | some o => exact ford_some ho
theorem ov_pl {up : Bool} {x y : Nat} (hx : isN x = false) (hy : isN y = false) : ov up x y = decide (if up = true then pl y < pl x else pl x < pl y) := by
  unfold ov
  rw [ford_pl hx hy]
  cases up with
  | true =>
    simp only [if_true]
    rcases Int.lt_trichotomy (pl x) (pl y) with h | h | h
    · rw [Std.compare_eq_lt.2 h, decide_eq_false (by omega)]; rfl
    · rw [h, show compare (pl y) (pl y) = .eq from Std.ReflCmp.compare_self, decide_eq_false (by omega)]; rfl
    · rw [Std.compare_eq_gt.2 h, decide_eq_true h]; rfl
  | false =>
    simp only [Bool.false_eq_true, if_false]
    rcases Int.lt_trichotomy (pl x) (pl y) with h | h | h
    · rw [Std.compare_eq_lt.2 h, decide_eq_true h]; rfl
    · rw [h, show compare (pl y) (pl y) = .eq from Std.ReflCmp.compare_self, decide_eq_false (by omega)]; rfl
    · rw [Std.compare_eq_gt.2 h, decide_eq_false (by omega)]; rfl
theorem ov_trans {up : Bool} {x y z : Nat} (h1 : ov up x y = true) (h2 : ov up y z = true) : ov up x z = true := by
  obtain ⟨nx, ny⟩ := ov_nn h1
  obtain ⟨_, nz⟩ := ov_nn h2
  rw [ov_pl nx ny, decide_eq_true_eq] at h1
  rw [ov_pl ny nz, decide_eq_true_eq] at h2
  rw [ov_pl nx nz, decide_eq_true_eq]
  cases up <;> simp at h1 h2 ⊢ <;> omega
theorem ov_irr (up : Bool) (x : Nat) : ov up x x = false := by
  cases h : ov up x x with
  | false => rfl
  | true =>
    obtain ⟨nx, _⟩ := ov_nn h
    rw [ov_pl nx nx, decide_eq_true_eq] at h
    cases up <;> simp at h
theorem ov_N {up : Bool} {x y : Nat} (h : isN y = true) : ov up x y = false := by
  cases ho : ov up x y with
  | false => rfl
  | true => rw [(ov_nn ho).2] at h; cases h

theorem mostP_ov (up : Bool) (v m : Nat) : mostP up v m = (ov up v m || isN m) := rfl
theorem most_top (vs : List Nat) (up : Bool) : ∀ k, (isN (mostT vs up k) = true → ∀ j, j ≤ k → isN (at0 vs j) = true) ∧ ∀ j, j ≤ k → ov up (at0 vs j) (mostT vs up k) = false
  | 0 => by
    refine ⟨fun h j hj => ?_, fun j hj => ?_⟩ <;> obtain rfl : j = 0 := by omega
    · exact h
    · exact ov_irr _ _
  | k + 1 => by
    obtain ⟨i1, i2⟩ := most_top vs up k
    have e : mostT vs up (k + 1) = if mostP up (at0 vs (k + 1)) (mostT vs up k) = true then at0 vs (k + 1) else mostT vs up k := rfl
    rw [e, mostP_ov]
    cases hp : (ov up (at0 vs (k + 1)) (mostT vs up k) || isN (mostT vs up k)) with
    | true =>
      rw [if_pos rfl]
      rw [Bool.or_eq_true] at hp
      refine ⟨fun h j hj => ?_, fun j hj => ?_⟩
      · rcases hp with hp | hp
        · rw [(ov_nn hp).1] at h; cases h
        · by_cases ej : j = k + 1
          · subst ej; exact h
          · exact i1 hp j (by omega)
      · by_cases ej : j = k + 1
        · subst ej; exact ov_irr _ _
        · rcases hp with hp | hp
          · cases ho : ov up (at0 vs j) (at0 vs (k + 1)) with
            | false => rfl
            | true => rw [← i2 j (by omega)]; exact (ov_trans ho hp).symm
          · have hn := i1 hp j (by omega)
            cases ho : ov up (at0 vs j) (at0 vs (k + 1)) with
            | false => rfl
            | true => rw [(ov_nn ho).1] at hn; cases hn
    | false =>
      rw [if_neg (by simp)]
      rw [Bool.or_eq_false_iff] at hp
      refine ⟨fun h => (by rw [hp.2] at h; cases h), fun j hj => ?_⟩
      by_cases ej : j = k + 1
      · subst ej; exact hp.1
      · exact i2 j (by omega)

/-- An outermost quantile stands among the numbers. -/
theorem quant_mem {q : Nat} {cs : List Nat} (hq : q = 0 ∨ q = w1) (hl : 1 ≤ cs.length) (hb : cs.length ≤ 9007199254740992) : ∃ j, j < cs.length ∧ quantS q cs = at0 cs j := by
  obtain ⟨hu, e1, e2, e3⟩ : unit01 q ∧ isN q = false ∧ (ford q 0 == some .lt) = false ∧ (ford q w1 == some .gt) = false := by
    rcases hq with rfl | rfl <;> (unfold unit01; decide +kernel)
  have hz : fv q = 0 ∨ fv q = 1 := by
    rcases hq with rfl | rfl
    · exact .inl fv_zero.2
    · exact .inr fv_one.2
  obtain ⟨hm, mv⟩ := fv_wz (z := (cs.length : Int) - 1) (by omega)
  have hr := mul_rd (unit_fin hu).1 hm
  have hrv : ∃ z : Int, isF (rankQ q cs.length) ∧ fv (rankQ q cs.length) = (z : Rat) := by
    unfold rankQ
    rcases hz with hz | hz
    · rw [hz, Rat.zero_mul] at hr
      obtain ⟨a, b⟩ := rd_between hr fv_zero.1 fv_zero.1 (by rw [fv_zero.2]; exact Rat.le_refl) (by rw [fv_zero.2]; exact Rat.le_refl)
      rw [fv_zero.2] at b
      exact ⟨0, a, by have e0 : ((0 : Int) : Rat) = 0 := rfl
                      rw [e0]; grind⟩
    · rw [hz, Rat.one_mul] at hr
      obtain ⟨a, b⟩ := rd_between hr hm hm Rat.le_refl Rat.le_refl
      exact ⟨(cs.length : Int) - 1, a, by rw [← mv]; grind⟩
  obtain ⟨z, r1, r2⟩ := hrv
  obtain ⟨f1, f2⟩ := floor_rat r1
  have hfl : ((flI (rankQ q cs.length) : Int) : Rat) = (z : Rat) := by
    have a := flI_le (rankQ q cs.length)
    have b := lt_flI (rankQ q cs.length)
    rw [r2] at a b
    have a' := Rat.intCast_le_intCast.1 a
    rw [show ((flI (rankQ q cs.length) : Int) : Rat) + 1 = ((flI (rankQ q cs.length) + 1 : Int) : Rat) by rw [Rat.intCast_add]; rfl] at b
    have b' := Rat.intCast_lt_intCast.1 b
    rw [show flI (rankQ q cs.length) = z by omega]
  have hw : (ford (weightQ q cs.length) 0 == some .eq) = true := by
    have hs := sub_rd r1 f1
    rw [f2, hfl, r2] at hs
    obtain ⟨a, b⟩ := rd_between hs fv_zero.1 fv_zero.1 (by rw [fv_zero.2]; grind) (by rw [fv_zero.2]; grind)
    rw [fv_zero.2] at b
    unfold weightQ
    rw [(ford_fv a fv_zero.1).2.2, fv_zero.2]
    exact decide_eq_true (by grind)
  have hp := place_lt hu hl hb
  have hlen := length_sortC cs
  have hval : quantS q cs = atC (sortC cs) (placeQ q cs.length) := by
    unfold quantS
    rw [if_neg (by omega), if_neg (by rw [e1]; simp), if_neg (by rw [e2]; simp), if_neg (by rw [e3]; simp)]
    unfold quantSorted
    rw [hlen, if_pos hw]
  have hmem : atC (sortC cs) (placeQ q cs.length) ∈ cs := by
    have h1 : atC (sortC cs) (placeQ q cs.length) ∈ sortC cs := by
      unfold atC
      rw [List.getD, List.getElem?_eq_getElem (by rw [hlen]; exact hp), Option.getD_some]
      exact List.getElem_mem _
    unfold sortC at h1
    exact (List.mergeSort_perm _ _).mem_iff.1 h1
  obtain ⟨j, hj, he⟩ := List.getElem_of_mem hmem
  exact ⟨j, hj, by rw [hval, ← he]; simp [at0, List.getD, hj]⟩
end Go.Proofs.Ytoeldcgclaiokaa
