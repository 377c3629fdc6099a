/- The order of floats that sorts: NaN first, then by size; sorted lists. -/
import Derived.Test.YtllphokepjekpaaFlWhole
import Derived.Sort.Statements
import Derived.Shelf.SlSortCmp.Insertion
namespace Go.Fl
open Ieee Go.Sort Go.Proofs

/-- A whole number that grows with the float's place in the order. -/
def pl (x : Nat) : Int := if isN x then -9223372036854775808 else if sgn x then -(rung x : Int) else rung x
def ordI (x y : Nat) : Int := if pl x < pl y then -1 else if pl y < pl x then 1 else 0
def leF (x y : Nat) : Bool := decide (pl x ≤ pl y)

theorem pl_cn (x : Nat) : pl (cn x) = pl x := by
  cases h : isN x
  · rw [cn_of_notN h]
  · rw [cn_of_N h]; unfold pl; rw [h, isN_nanc]; rfl

theorem isN_iff (x : Nat) : isN x = decide (9218868437227405312 < rung x) := by
  unfold isN Format.read rung
  rw [sw_eq, binade_eq, infRung_eq]
  dsimp only
  split
  · simp only [Datum.isNaN]; symm; apply decide_eq_false; omega
  · split
    · simp only [Datum.isNaN]; symm; apply decide_eq_false; omega
    · split
      · simp only [Datum.isNaN]; symm; apply decide_eq_false; omega
      · simp only [Datum.isNaN]; symm; apply decide_eq_true; omega

theorem read_inf {x : Nat} (h : rung x = 9218868437227405312) : double.read x = .infinity (sgn x) := by
  unfold Format.read
  unfold rung at h
  rw [sw_eq, binade_eq, infRung_eq]
  dsimp only
  rw [if_neg (by omega), if_neg (by omega), if_pos h]
  rfl

theorem pl_fin {x : Nat} (h : isF x) : pl x = if sgn x then -(rung x : Int) else rung x := by
  unfold pl; rw [isF_notN h]; rfl
theorem rung_lt_sw (x : Nat) : rung x < 9223372036854775808 := Nat.mod_lt _ (by decide)

theorem unitsOf_zero : unitsOf 0 = 0 := by decide
theorem unitsOf_lt_iff {r s : Nat} : unitsOf r < unitsOf s ↔ r < s :=
  ⟨fun h => Nat.lt_of_not_le fun h' => by have := unitsOf_le h'; omega, unitsOf_lt⟩
theorem unitsOf_pos {r : Nat} : 0 < unitsOf r ↔ 0 < r := by
  have := unitsOf_lt_iff (r := 0) (s := r); rw [unitsOf_zero] at this; exact this

theorem uv_lt_iff {x y : Nat} (hx : isF x) (hy : isF y) : uv x < uv y ↔ pl x < pl y := by
  rw [pl_fin hx, pl_fin hy]
  unfold uv
  have h1 := unitsOf_lt_iff (r := rung x) (s := rung y)
  have h2 := unitsOf_lt_iff (r := rung y) (s := rung x)
  have h3 := unitsOf_pos (r := rung x)
  have h4 := unitsOf_pos (r := rung y)
  cases sgn x <;> cases sgn y <;> simp only [Bool.false_eq_true, if_false, if_true] <;> omega

theorem compare_of_lt {a b c d : Int} (h1 : a < b ↔ c < d) (h2 : b < a ↔ d < c) : compare a b = compare c d := by
  rcases Int.lt_trichotomy a b with h | h | h
  · rw [Std.compare_eq_lt.2 h, Std.compare_eq_lt.2 (h1.1 h)]
  · have hcd : c = d := by
      rcases Int.lt_trichotomy c d with g | g | g
      · have := h1.2 g; omega
      · exact g
      · have := h2.2 g; omega
    rw [h, hcd]
    have key : ∀ z : Int, compare z z = .eq := fun z => Std.ReflCmp.compare_self
    rw [key, key]
  · rw [Std.compare_eq_gt.2 h, Std.compare_eq_gt.2 (h2.1 h)]

/-- Two floats that are no NaN stand as their places. -/
theorem ford_pl {x y : Nat} (hx : isN x = false) (hy : isN y = false) : ford x y = some (compare (pl x) (pl y)) := by
  by_cases fx : isF x
  · by_cases fy : isF y
    · rw [order_fin fx fy]
      exact congrArg some (compare_of_lt (uv_lt_iff fx fy) (uv_lt_iff fy fx))
    · have hr : rung y = 9218868437227405312 := by
        rw [isN_iff] at hy; have := of_decide_eq_false hy; unfold isF at fy; omega
      obtain ⟨m, j, hm, _⟩ := read_fin fx
      unfold ford Format.order
      rw [hm, read_inf hr]
      have e : pl y = if sgn y then -9218868437227405312 else 9218868437227405312 := by unfold pl; rw [hy, hr]; rfl
      have hb : -9218868437227405312 < pl x ∧ pl x < 9218868437227405312 := by
        rw [pl_fin fx]; unfold isF at fx; split <;> omega
      rw [e]
      show some (if sgn y then Ordering.gt else Ordering.lt) = _
      cases sgn y
      · rw [if_neg (by simp), if_neg (by simp), Std.compare_eq_lt.2 hb.2]
      · rw [if_pos rfl, if_pos rfl, Std.compare_eq_gt.2 hb.1]
  · have hr : rung x = 9218868437227405312 := by
      rw [isN_iff] at hx; have := of_decide_eq_false hx; unfold isF at fx; omega
    have e : pl x = if sgn x then -9218868437227405312 else 9218868437227405312 := by unfold pl; rw [hx, hr]; rfl
    by_cases fy : isF y
    · obtain ⟨m, j, hm, _⟩ := read_fin fy
      unfold ford Format.order
      rw [hm, read_inf hr]
      have hb : -9218868437227405312 < pl y ∧ pl y < 9218868437227405312 := by
        rw [pl_fin fy]; unfold isF at fy; split <;> omega
      rw [e]
      show some (if sgn x then Ordering.lt else Ordering.gt) = _
      cases sgn x
      · rw [if_neg (by simp), if_neg (by simp), Std.compare_eq_gt.2 hb.2]
      · rw [if_pos rfl, if_pos rfl, Std.compare_eq_lt.2 hb.1]
    · have hr2 : rung y = 9218868437227405312 := by
        rw [isN_iff] at hy; have := of_decide_eq_false hy; unfold isF at fy; omega
      have e2 : pl y = if sgn y then -9218868437227405312 else 9218868437227405312 := by unfold pl; rw [hy, hr2]; rfl
      unfold ford Format.order
      rw [read_inf hr, read_inf hr2, e, e2]
      cases sgn x <;> cases sgn y <;> rfl

theorem pl_nan {x : Nat} (h : isN x = true) : pl x = -9223372036854775808 := by unfold pl; rw [h]; rfl
theorem pl_notN {x : Nat} (h : isN x = false) : -9218868437227405312 ≤ pl x ∧ pl x ≤ 9218868437227405312 := by
  rw [isN_iff] at h
  have h1 := of_decide_eq_false h
  have h2 : isN x = false := by rw [isN_iff]; exact decide_eq_false h1
  unfold pl; rw [h2]
  simp only [Bool.false_eq_true, if_false]
  split <;> omega

theorem ltOf_ordI (x y : Nat) : ltOf ordI x y = decide (pl x < pl y) := by
  unfold ltOf ordI
  by_cases h : pl x < pl y
  · simp [h]
  · by_cases h2 : pl y < pl x <;> simp [h, h2]
theorem swo_ordI : SWO (ltOf ordI) where
  irrefl x := by rw [ltOf_ordI]; simp
  trans x y z := by rw [ltOf_ordI, ltOf_ordI, ltOf_ordI]; simp; omega
  ntrans x y z := by rw [ltOf_ordI, ltOf_ordI, ltOf_ordI]; simp; omega
theorem leF_eq : (fun x y => !ltOf ordI y x) = leF := by
  funext x y; rw [ltOf_ordI]; unfold leF
  by_cases h : pl x ≤ pl y
  · rw [decide_eq_false (by omega), decide_eq_true h]; rfl
  · rw [decide_eq_true (by omega), decide_eq_false h]; rfl

def sortC (cs : List Nat) : List Nat := cs.mergeSort leF
theorem length_sortC (cs : List Nat) : (sortC cs).length = cs.length := List.length_mergeSort _
theorem sortC_cn (xs : List Nat) : sortC (xs.map cn) = (xs.mergeSort leF).map cn := by
  unfold sortC
  exact (List.map_mergeSort (fun a _ b _ => by unfold leF; rw [pl_cn, pl_cn])).symm

theorem leF_trans (a b c : Nat) : leF a b = true → leF b c = true → leF a c = true := by
  unfold leF; simp; omega
theorem leF_total (a b : Nat) : (leF a b || leF b a) = true := by
  unfold leF
  rcases Int.le_total (pl a) (pl b) with h | h
  · simp [h]
  · simp [h]

theorem sort_shift {α : Type} (le : α → α → Bool) (l : List α) (k : Nat) : ((l.zipIdx k).mergeSort (List.zipIdxLE le)).map (·.1) = l.mergeSort le := by
  rw [← List.mergeSort_zipIdx (l := l)]
  have e : l.zipIdx k = l.zipIdx.map fun x => (x.1, x.2 + k) := by
    apply List.ext_getElem?
    intro i
    rw [List.getElem?_map, List.getElem?_zipIdx, List.getElem?_zipIdx]
    cases l[i]? <;> simp
    omega
  rw [e, ← List.map_mergeSort (r := List.zipIdxLE le)]
  · simp
  · intro a _ b _
    simp [List.zipIdxLE]

/-- Two sorted halves, merged. -/
theorem merge_sorts {α : Type} (le : α → α → Bool) (ht : ∀ a b c, le a b = true → le b c = true → le a c = true) (hto : ∀ a b, (le a b || le b a) = true) (a b : List α) :
    List.merge (a.mergeSort le) (b.mergeSort le) le = (a ++ b).mergeSort le := by
  rw [← List.mergeSort_zipIdx (l := a ++ b), ← List.mergeSort_zipIdx (l := a), ← sort_shift le b a.length, ← List.merge_stable]
  · congr 1
    have t := List.zipIdxLE_trans ht
    have o := List.zipIdxLE_total hto
    have hp : (List.merge ((a.zipIdx 0).mergeSort (List.zipIdxLE le)) ((b.zipIdx a.length).mergeSort (List.zipIdxLE le)) (List.zipIdxLE le)).Perm ((a ++ b).zipIdx.mergeSort (List.zipIdxLE le)) := by
      refine (List.merge_perm_append _).trans ?_
      refine (List.Perm.append (List.mergeSort_perm _ _) (List.mergeSort_perm _ _)).trans ?_
      refine List.Perm.trans ?_ (List.mergeSort_perm _ _).symm
      rw [List.zipIdx_append]
      simp
    refine List.Perm.eq_of_pairwise (le := fun x y => List.zipIdxLE le x y = true) ?_ ?_ ?_ hp
    · rintro ⟨x, i⟩ ⟨y, j⟩ hx hy h1 h2
      have hx' := (List.mergeSort_perm _ _).mem_iff.1 (hp.mem_iff.1 hx)
      have hy' := (List.mergeSort_perm _ _).mem_iff.1 hy
      have : i = j := by
        simp only [List.zipIdxLE] at h1 h2
        cases c1 : le x y <;> cases c2 : le y x <;> simp [c1, c2] at h1 h2
        omega
      subst this
      have e1 := List.mem_zipIdx hx'
      have e2 := List.mem_zipIdx hy'
      simp_all
    · exact List.pairwise_merge t o _ _ (List.pairwise_mergeSort t o _) (List.pairwise_mergeSort t o _)
    · exact List.pairwise_mergeSort t o _
  · intro x y hx hy
    have h1 := (List.mergeSort_perm _ _).mem_iff.1 hx
    have h2 := (List.mergeSort_perm _ _).mem_iff.1 hy
    have := List.mem_zipIdx h1
    have := List.mem_zipIdx h2
    omega

end Go.Fl
