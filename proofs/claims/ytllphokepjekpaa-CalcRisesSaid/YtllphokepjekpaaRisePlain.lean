/- The histogram that the law CalcRises builds, told as a list. -/
import Derived.Test.YtllphokepjekpaaHRise
namespace Go.Fl
open Ieee Go.RowKit Go.Proofs.Ytllphokepjekpaa

/-- What a slice of whole numbers of some kind holds. -/
def RowZ (k : IntKind) (lo hi : Int) (w : World) (a : Option Addr) (n : Nat) (zs : List Int) : Prop :=
  zs.length = n ∧ n ≤ 9223372036854775807 ∧ (∀ i, lo ≤ zs.getD i 0 ∧ zs.getD i 0 ≤ hi) ∧ (0 < n → ∃ b off, a = some ⟨b, off, none⟩ ∧ ∀ i, i < n → w.cell? ⟨b, off + i, none⟩ = some (.int k (zs.getD i 0)))

theorem RowZ.below {k : IntKind} {lo hi : Int} {w w' : World} {a : Option Addr} {n : Nat} {zs : List Int} (h : RowZ k lo hi w a n zs) (hb : Below w.heap.size w w') : RowZ k lo hi w' a n zs := by
  obtain ⟨h1, h2, h3, h4⟩ := h
  refine ⟨h1, h2, h3, fun hn => ?_⟩
  obtain ⟨b, off, ha, hc⟩ := h4 hn
  refine ⟨b, off, ha, fun i hi => ?_⟩
  have hblt : b < w.heap.size := World.block_lt_of_cell? w _ (hc 0 hn)
  rw [hb.cell (p := ⟨b, off + i, none⟩) hblt]
  exact hc i hi

/-- The first k buckets. -/
def mkB (zs cs : List Int) (k : Nat) : List Hb := (List.range k).map fun i => ⟨wz (zs.getD i 0), wz (sI cs (i + 1))⟩
theorem mkB_zero (zs cs : List Int) : mkB zs cs 0 = [] := rfl
theorem mkB_succ (zs cs : List Int) (k : Nat) : mkB zs cs (k + 1) = mkB zs cs k ++ [⟨floatOfInt .f64 (zs.getD k 0), floatOfInt .f64 (sI cs (k + 1))⟩] := by
  unfold mkB; rw [List.range_succ, List.map_append]; rfl
theorem length_mkB (zs cs : List Int) (k : Nat) : (mkB zs cs k).length = k := by simp [mkB]
theorem hAt_mkB (zs cs : List Int) {k i : Nat} (h : i < k) : hAt (mkB zs cs k) i = ⟨wz (zs.getD i 0), wz (sI cs (i + 1))⟩ := by
  simp [hAt, mkB, List.getD, h]
def allB (zs cs : List Int) (n : Nat) : List Hb := mkB zs cs n ++ [⟨pinf, floatOfInt .f64 (sI cs (n + 1))⟩]

theorem sI_bd {cs : List Int} (hb : ∀ i, 0 ≤ cs.getD i 0 ∧ cs.getD i 0 ≤ 65535) : ∀ k, 0 ≤ sI cs k ∧ sI cs k ≤ 65535 * (k : Int) := by
  intro k
  induction k with
  | zero => exact ⟨Int.le_refl _, Int.le_refl _⟩
  | succ k ih =>
    have := hb k
    show 0 ≤ sI cs k + cs.getD k 0 ∧ sI cs k + cs.getD k 0 ≤ 65535 * ((k + 1 : Nat) : Int)
    omega
theorem sI_up {cs : List Int} (hb : ∀ i, 0 ≤ cs.getD i 0 ∧ cs.getD i 0 ≤ 65535) {i j : Nat} (h : i ≤ j) : sI cs i ≤ sI cs j := by
  induction j with
  | zero => obtain rfl : i = 0 := by omega
            exact Int.le_refl _
  | succ j ih =>
    by_cases h2 : i = j + 1
    · subst h2; exact Int.le_refl _
    · have := ih (by omega)
      have := hb j
      show sI cs i ≤ sI cs j + cs.getD j 0
      omega
theorem rise_all {zs : List Int} {n : Nat} (h : ∀ i, i + 1 < n → zs.getD i 0 < zs.getD (i + 1) 0) : ∀ i j, i < j → j < n → zs.getD i 0 < zs.getD j 0 := by
  intro i j hij
  induction j with
  | zero => omega
  | succ j ih =>
    intro hj
    by_cases h2 : i = j
    · subst h2; exact h i hj
    · have := ih (by omega) (by omega)
      have := h j hj
      omega

theorem hAtL {xs ys : List Hb} {i : Nat} (h : i < xs.length) : hAt (xs ++ ys) i = hAt xs i := by simp [hAt, List.getD, List.getElem?_append_left h]
theorem hAtR {xs ys : List Hb} {n : Nat} (hn : xs.length = n) : hAt (xs ++ ys) n = hAt ys 0 := by
  subst hn
  unfold hAt
  rw [List.getD, List.getD, List.getElem?_append_right (by omega), Nat.sub_self]
theorem cmp_self (z : Int) : compare z z = .eq := Std.ReflCmp.compare_self
theorem whole_all {zs cs : List Int} {n : Nat} (h1 : 1 ≤ n) (h2 : n ≤ 200) (hz : ∀ i, -2147483648 ≤ zs.getD i 0 ∧ zs.getD i 0 ≤ 2147483647) (hc : ∀ i, 0 ≤ cs.getD i 0 ∧ cs.getD i 0 ≤ 65535)
    (h0 : cs.getD 0 0 ≠ 0) (hr : ∀ i, i + 1 < n → zs.getD i 0 < zs.getD (i + 1) 0) : Whole (fun i => zs.getD i 0) (fun i => sI cs (min i n + 1)) n (allB zs cs n) where
  n1 := h1
  len := by unfold allB; rw [List.length_append, length_mkB]; rfl
  up i hi := by
    unfold uH allB
    rw [hAtL (by rw [length_mkB]; exact hi), hAt_mkB _ _ hi]
  top := by
    unfold uH allB
    rw [hAtR (length_mkB _ _ _)]
    rfl
  ct i hi := by
    by_cases hin : i < n
    · unfold cH allB
      rw [hAtL (by rw [length_mkB]; exact hin), hAt_mkB _ _ hin]
      show _ = wz (sI cs (min i n + 1))
      rw [Nat.min_eq_left (by omega)]
    · obtain rfl : i = n := by omega
      unfold cH allB
      rw [hAtR (length_mkB _ _ _)]
      show _ = wz (sI cs (min i i + 1))
      rw [Nat.min_self]
      rfl
  rise := rise_all hr
  mono i j hij hj := sI_up hc (by omega)
  c0 := by
    have := hc 0
    show 0 < sI cs (min 0 n + 1)
    rw [Nat.zero_min]
    show 0 < 0 + cs.getD 0 0
    omega
  su i := by have := hz i; show (zs.getD i 0).natAbs ≤ _; omega
  sc i := by
    have := sI_bd hc (min i n + 1)
    show (sI cs (min i n + 1)).natAbs ≤ _
    have : min i n ≤ 200 := by omega
    omega

theorem leFF_notN {x y : Nat} (h : leFF x y = true) : isN x = false ∧ isN y = false := by
  refine ⟨?_, ?_⟩
  · cases hx : isN x
    · rfl
    · unfold leFF at h; rw [ford_N1 y hx] at h; cases h
  · cases hy : isN y
    · rfl
    · unfold leFF at h; rw [ford_N2 x hy] at h; cases h
theorem leFF_pl {x y : Nat} (hx : isN x = false) (hy : isN y = false) : leFF x y = decide (pl x ≤ pl y) := by
  unfold leFF
  rw [ford_pl hx hy]
  rcases Int.lt_trichotomy (pl x) (pl y) with h | h | h
  · rw [Std.compare_eq_lt.2 h]; simp; omega
  · rw [h, cmp_self]; simp
  · rw [Std.compare_eq_gt.2 h]; simp; omega
theorem unit_of {p q : Nat} (h0 : leFF 0 p = true) (h1 : leFF p q = true) (h2 : leFF q w1 = true) : unit01 p ∧ unit01 q ∧ fv p ≤ fv q := by
  obtain ⟨z, np⟩ := leFF_notN h0
  obtain ⟨nq, o⟩ := leFF_notN h2
  rw [leFF_pl z np] at h0
  have h1' := h1
  rw [leFF_pl np nq] at h1
  rw [leFF_pl nq o] at h2
  simp only [decide_eq_true_eq] at h0 h1 h2
  have U : ∀ x, isN x = false → pl 0 ≤ pl x → pl x ≤ pl w1 → unit01 x := fun x hx a b => by
    refine ⟨hx, ?_, ?_⟩
    · rw [ford_pl hx z]
      rcases Int.lt_trichotomy (pl x) (pl 0) with h | h | h
      · omega
      · rw [h, cmp_self]; rfl
      · rw [Std.compare_eq_gt.2 h]; rfl
    · rw [ford_pl hx o]
      rcases Int.lt_trichotomy (pl x) (pl w1) with h | h | h
      · rw [Std.compare_eq_lt.2 h]; rfl
      · rw [h, cmp_self]; rfl
      · omega
  have up := U p np h0 (by omega)
  have uq := U q nq (by omega) h2
  refine ⟨up, uq, ?_⟩
  rw [leFF_fv (unit_fin up).1 (unit_fin uq).1] at h1'
  simpa using h1'

/-- The law's own question, answered. -/
theorem all_rises {zs cs : List Int} {n : Nat} (h1 : 1 ≤ n) (h2 : n ≤ 200) (hz : ∀ i, -2147483648 ≤ zs.getD i 0 ∧ zs.getD i 0 ≤ 2147483647) (hc : ∀ i, 0 ≤ cs.getD i 0 ∧ cs.getD i 0 ≤ 65535)
    (h0 : cs.getD 0 0 ≠ 0) (hr : ∀ i, i + 1 < n → zs.getD i 0 < zs.getD (i + 1) 0) {p q : Nat} (hp0 : leFF 0 p = true) (hpq : leFF p q = true) (hq1 : leFF q w1 = true) {a b low : Nat}
    (ha : cn a = bucketsS (cn p) (allB zs cs n)) (hb : cn b = bucketsS (cn q) (allB zs cs n)) (hlow : (zs.getD 0 0 < 0 ∧ low = floatOfInt .f64 (zs.getD 0 0)) ∨ (¬zs.getD 0 0 < 0 ∧ low = 0)) :
    leFF low a = true ∧ leFF a b = true ∧ leFF b (floatOfInt .f64 (zs.getD (n - 1) 0)) = true := by
  obtain ⟨up, uq, hle⟩ := unit_of hp0 hpq hq1
  obtain ⟨f1, f2, l1, l2, l3⟩ := (whole_all h1 h2 hz hc h0 hr).rises up uq hle
  have ea : a = bucketsS (cn p) (allB zs cs n) := by
    have : isN a = false := by rw [← isN_cn, ha]; exact isF_notN f1
    rw [← ha, cn_of_notN this]
  have eb : b = bucketsS (cn q) (allB zs cs n) := by
    have : isN b = false := by rw [← isN_cn, hb]; exact isF_notN f2
    rw [← hb, cn_of_notN this]
  rw [← ea] at f1 l1 l2
  rw [← eb] at f2 l2 l3
  have et := fv_wz (z := zs.getD (n - 1) 0) (by have := hz (n - 1); omega)
  have el : isF low ∧ fv low = ((min 0 (zs.getD 0 0) : Int) : Rat) := by
    rcases hlow with ⟨x, rfl⟩ | ⟨x, rfl⟩
    · rw [Int.min_eq_right (by omega)]
      exact fv_wz (z := zs.getD 0 0) (by have := hz 0; omega)
    · rw [Int.min_eq_left (by omega)]
      exact fv_zero
  refine ⟨?_, ?_, ?_⟩
  · rw [leFF_fv el.1 f1, el.2]; simpa using l1
  · rw [leFF_fv f1 f2]; simpa using l2
  · rw [show floatOfInt .f64 (zs.getD (n - 1) 0) = wz (zs.getD (n - 1) 0) from rfl, leFF_fv f2 et.1, et.2]; simpa using l3
end Go.Fl
