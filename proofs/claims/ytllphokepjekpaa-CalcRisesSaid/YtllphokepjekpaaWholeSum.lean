/- The compensated sum of whole numbers is exact. -/
import Derived.Test.YtllphokepjekpaaMeanAll
import Derived.Test.YtllphokepjekpaaFlAll
namespace Go.Proofs.Ytllphokepjekpaa
open Go.Fl Go.Rel Go.RowKit

theorem isF_mod {x : Nat} (h : isF x) : isF (x % top) := by
  unfold isF rung at *
  unfold top
  omega

theorem finf_fin {x : Nat} (h : isF x) : finf x = false := by
  unfold finf fabs
  rw [isF_notN h]
  have hM : isF 9218868437227405311 := by unfold isF rung; omega
  rw [show (if false = true then nanc else x % top) = x % top from rfl, order_fin (isF_mod h) hM]
  have h1 : uv (x % top) = unitsOf (rung x) := by
    unfold uv sgn rung
    rw [Nat.div_eq_of_lt (show x % top < 9223372036854775808 from Nat.mod_lt _ (by decide))]
    unfold top
    rw [Nat.mod_mod]; rfl
  have h2 : uv 9218868437227405311 = unitsOf 9218868437227405311 := by
    unfold uv sgn rung
    rw [Nat.div_eq_of_lt (by omega), Nat.mod_eq_of_lt (by omega)]; rfl
  rw [h1, h2]
  have h3 : unitsOf (rung x) ≤ unitsOf 9218868437227405311 := unitsOf_le (by unfold isF at h; omega)
  generalize unitsOf (rung x) = p at h3
  generalize unitsOf 9218868437227405311 = q at h3
  have h4 : compare (p : Int) (q : Int) ≠ .gt := by
    intro h; have := Std.compare_eq_gt.1 h; omega
  cases h5 : compare (p : Int) (q : Int) <;> simp_all

theorem addT_whole {a b : Int} (ha : a.natAbs ≤ 9007199254740992) (hb : b.natAbs ≤ 9007199254740992) (hab : (a + b).natAbs ≤ 9007199254740992) : addT (wz a, wz 0) (wz b) = (wz (a + b), wz 0) := by
  unfold addT
  dsimp only
  rw [wz_add ha hb, finf_fin (wz_read hab).1, if_neg (by simp)]
  have h1 : fadd (wz 0) (fadd (fsub (wz a) (wz (a + b))) (wz b)) = wz 0 := by
    rw [wz_sub ha hab, wz_add (by omega) hb, wz_add (by omega) (by omega)]
    congr 1; omega
  have h2 : fadd (wz 0) (fadd (fsub (wz b) (wz (a + b))) (wz a)) = wz 0 := by
    rw [wz_sub hb hab, wz_add (by omega) ha, wz_add (by omega) (by omega)]
    congr 1; omega
  rw [h1, h2, ite_self]

/-- The sum of the first k, and of their absolute values. -/
def sI (zs : List Int) : Nat → Int
  | 0 => 0
  | k + 1 => sI zs k + zs.getD k 0
def aI (zs : List Int) : Nat → Nat
  | 0 => 0
  | k + 1 => aI zs k + (zs.getD k 0).natAbs

theorem sI_le (zs : List Int) (k : Nat) : (sI zs k).natAbs ≤ aI zs k := by
  induction k with
  | zero => simp [sI, aI]
  | succ k ih => simp only [sI, aI]; omega

theorem aI_mono (zs : List Int) {j k : Nat} (h : j ≤ k) : aI zs j ≤ aI zs k := by
  induction k with
  | zero => obtain rfl : j = 0 := by omega
            exact Nat.le_refl _
  | succ k ih =>
    by_cases hj : j = k + 1
    · subst hj; exact Nat.le_refl _
    · have := ih (by omega); simp only [aI]; omega

theorem at_le (zs : List Int) {j k : Nat} (h : j < k) : (zs.getD j 0).natAbs ≤ aI zs k := by
  have := aI_mono zs (show j + 1 ≤ k by omega)
  simp only [aI] at this
  omega

theorem at0_wz (zs : List Int) {k : Nat} (h : k < zs.length) : at0 (zs.map wz) k = wz (zs.getD k 0) := by
  simp [at0, List.getD, h]

theorem tot_whole (zs : List Int) (h : aI zs zs.length ≤ 9007199254740992) : ∀ k, k ≤ zs.length → totT (zs.map wz) k = (wz (sI zs k), wz 0) := by
  intro k
  induction k with
  | zero => intro _; simp only [totT, sI, wz_zero]
  | succ k ih =>
    intro hk
    have h1 := at_le zs (show k < zs.length by omega)
    have h2 := sI_le zs k
    have h3 := aI_mono zs (show k ≤ zs.length by omega)
    have h4 := sI_le zs (k + 1)
    have h5 := aI_mono zs hk
    rw [totT, ih (by omega), at0_wz zs (by omega), addT_whole (by omega) (by omega) (by simp only [sI] at h4; omega)]
    rfl

theorem sum_whole (zs : List Int) (h : aI zs zs.length ≤ 9007199254740992) : sumS (zs.map wz) = wz (sI zs zs.length) := by
  unfold sumS
  rw [List.length_map, tot_whole zs h _ (Nat.le_refl _)]
  have := sI_le zs zs.length
  rw [wz_add (by omega) (by decide)]
  congr 1; omega

theorem map_cn_wz (zs : List Int) (h : aI zs zs.length ≤ 9007199254740992) : (zs.map wz).map cn = zs.map wz := by
  rw [List.map_map]
  refine List.map_congr_left fun z hz => ?_
  obtain ⟨j, hj, rfl⟩ := List.mem_iff_getElem.1 hz
  have := at_le zs hj
  have e : zs.getD j 0 = zs[j] := by simp [List.getD, hj]
  rw [e] at this
  exact cn_wz (by omega)

/-- The list turned round: its sums. -/
theorem getD_rev (zs : List Int) {k : Nat} (h : k < zs.length) : zs.reverse.getD k 0 = zs.getD (zs.length - 1 - k) 0 := by
  simp [List.getD, List.getElem?_reverse h]

theorem sI_rev (zs : List Int) : ∀ k, k ≤ zs.length → sI zs.reverse k + sI zs (zs.length - k) = sI zs zs.length := by
  intro k
  induction k with
  | zero => intro _; simp [sI]
  | succ k ih =>
    intro hk
    have h := ih (by omega)
    have e : zs.length - k = (zs.length - (k + 1)) + 1 := by omega
    rw [e, sI] at h
    rw [sI, getD_rev zs (by omega), show zs.length - 1 - k = zs.length - (k + 1) by omega]
    omega

theorem aI_rev (zs : List Int) : ∀ k, k ≤ zs.length → aI zs.reverse k + aI zs (zs.length - k) = aI zs zs.length := by
  intro k
  induction k with
  | zero => intro _; simp [aI]
  | succ k ih =>
    intro hk
    have h := ih (by omega)
    have e : zs.length - k = (zs.length - (k + 1)) + 1 := by omega
    rw [e, aI] at h
    rw [aI, getD_rev zs (by omega), show zs.length - 1 - k = zs.length - (k + 1) by omega]
    omega

theorem sI_rev_all (zs : List Int) : sI zs.reverse zs.length = sI zs zs.length := by
  have := sI_rev zs zs.length (Nat.le_refl _)
  rw [Nat.sub_self] at this
  simpa [sI] using this
theorem aI_rev_all (zs : List Int) : aI zs.reverse zs.length = aI zs zs.length := by
  have := aI_rev zs zs.length (Nat.le_refl _)
  rw [Nat.sub_self] at this
  simpa [aI] using this

end Go.Proofs.Ytllphokepjekpaa
