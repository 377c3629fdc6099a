/- Durations: what their readers reckon. No program here. -/
import Derived.WalkKit
namespace Go.Dur

/-- The byte at a place (behind the end: 0). -/
def bt (s : ByteArray) (i : Nat) : Nat := (s.data.toList.getD i 0).toNat

theorem bt_le (s : ByteArray) (i : Nat) : bt s i ≤ 255 := by
  unfold bt
  have := (s.data.toList.getD i 0).toNat_lt
  omega

theorem bt_get (s : ByteArray) {i : Nat} (h : i < s.size) : (s[i]'h).toNat = bt s i := by
  obtain ⟨⟨l⟩⟩ := s
  have hl : i < l.length := h
  have e : (ByteArray.mk ⟨l⟩)[i]'h = l.getD i 0 := by
    simp only [List.getD, List.getElem?_eq_getElem hl, Option.getD_some]
    rfl
  unfold bt
  rw [e]

theorem bt_extract (s : ByteArray) {a b i : Nat} (hb : b ≤ s.size) (hi : i < b - a) : bt (s.extract a b) i = bt s (a + i) := by
  have h1 : i < (s.extract a b).size := by rw [ByteArray.size_extract]; omega
  rw [← bt_get _ h1, ← bt_get s (show a + i < s.size by omega)]
  congr 1
  exact ByteArray.getElem_extract ..

def isD (c : Nat) : Bool := decide (48 ≤ c) && decide (c ≤ 57)

/-- The place behind the digits that begin at i. -/
def runF (s : ByteArray) : Nat → Nat → Nat
  | 0, i => i
  | f + 1, i => if i < s.size ∧ isD (bt s i) = true then runF s f (i + 1) else i
def runE (s : ByteArray) (i : Nat) : Nat := runF s (s.size - i) i

theorem runE_step {s : ByteArray} {i : Nat} (h : i < s.size) (hd : isD (bt s i) = true) : runE s i = runE s (i + 1) := by
  unfold runE
  rw [show s.size - i = (s.size - (i + 1)) + 1 by omega, runF, if_pos ⟨h, hd⟩]
theorem runE_stop {s : ByteArray} {i : Nat} (h : ¬ (i < s.size ∧ isD (bt s i) = true)) : runE s i = i := by
  unfold runE
  cases hf : s.size - i with
  | zero => rfl
  | succ f => rw [runF, if_neg h]

theorem runF_bounds (s : ByteArray) : ∀ f i, i ≤ runF s f i ∧ (i ≤ s.size → runF s f i ≤ s.size) ∧ (∀ k, i ≤ k → k < runF s f i → isD (bt s k) = true) := by
  intro f
  induction f with
  | zero => intro i; exact ⟨Nat.le_refl _, fun h => h, fun k h1 h2 => by simp [runF] at h2; omega⟩
  | succ f ih =>
    intro i
    unfold runF
    by_cases h : i < s.size ∧ isD (bt s i) = true
    · rw [if_pos h]
      obtain ⟨h1, h2, h3⟩ := ih (i + 1)
      refine ⟨by omega, fun _ => h2 (by omega), fun k hk1 hk2 => ?_⟩
      by_cases hk : k = i
      · rw [hk]; exact h.2
      · exact h3 k (by omega) hk2
    · rw [if_neg h]
      exact ⟨Nat.le_refl _, fun h => h, fun k h1 h2 => by omega⟩
theorem runE_ge (s : ByteArray) (i : Nat) : i ≤ runE s i := (runF_bounds s _ i).1
theorem runE_le (s : ByteArray) {i : Nat} (h : i ≤ s.size) : runE s i ≤ s.size := (runF_bounds s _ i).2.1 h
theorem runE_dig (s : ByteArray) {i k : Nat} (h1 : i ≤ k) (h2 : k < runE s i) : isD (bt s k) = true := (runF_bounds s _ i).2.2 k h1 h2

/-- Of the unit at j: its bytes (0: none), its ms, its rank. -/
def unitOf (s : ByteArray) (j : Nat) : Nat × Nat × Nat :=
  if s.size ≤ j then (0, 0, 0)
  else if bt s j = 121 then (1, 31536000000, 1)
  else if bt s j = 119 then (1, 604800000, 2)
  else if bt s j = 100 then (1, 86400000, 3)
  else if bt s j = 104 then (1, 3600000, 4)
  else if bt s j = 109 then (if j + 1 < s.size ∧ bt s (j + 1) = 115 then (2, 1, 7) else (1, 60000, 5))
  else if bt s j = 115 then (1, 1000, 6)
  else (0, 0, 0)

theorem unit_fits (s : ByteArray) (j : Nat) (h : j ≤ s.size) : j + (unitOf s j).1 ≤ s.size := by
  unfold unitOf
  repeat' split
  all_goals (try dsimp only); omega

/-- The number that the first k digits write. -/
def decN (t : ByteArray) : Nat → Nat
  | 0 => 0
  | k + 1 => decN t k * 10 + (bt t k - 48)

theorem decN_mono (t : ByteArray) {j k : Nat} (h : j ≤ k) : decN t j ≤ decN t k := by
  induction k with
  | zero => obtain rfl : j = 0 := by omega
            exact Nat.le_refl _
  | succ k ih =>
    by_cases hj : j = k + 1
    · subst hj; exact Nat.le_refl _
    · have := ih (by omega); simp only [decN]; omega

def M : Nat := 315360000000000

/-- n times each, but M + 1 where that is more than M. -/
def manyN (n each : Nat) : Nat := if M / each < n then M + 1 else n * each
def satN (t : ByteArray) (k : Nat) : Nat := min (decN t k) (M + 1)

theorem satN_succ (t : ByteArray) (k : Nat) : satN t (k + 1) = min (satN t k * 10 + (bt t k - 48)) (M + 1) := by
  unfold satN
  simp only [decN]
  omega

theorem many_le (n each : Nat) : manyN n each ≤ M + 1 := by
  unfold manyN
  split
  · exact Nat.le_refl _
  · have h1 : n ≤ M / each := by omega
    have h2 : n * each ≤ M / each * each := Nat.mul_le_mul_right _ h1
    have h3 := Nat.div_mul_le_self M each
    omega

/-- A saturated number serves as well as the number. -/
theorem many_sat (n each : Nat) : manyN (min n (M + 1)) each = manyN n each := by
  unfold manyN
  have h : M / each ≤ M := Nat.div_le_self _ _
  by_cases h1 : M / each < n
  · rw [if_pos h1, if_pos (by omega)]
  · rw [if_neg h1, if_neg (by omega), Nat.min_eq_left (by omega)]

/-- The value of the part that begins at e. -/
def partN (s : ByteArray) (e : Nat) : Nat := manyN (decN (s.extract e (runE s e)) (runE s e - e)) (unitOf s (runE s e)).2.1

/-- Does a part of a higher rank begin at e? -/
def goesOn (s : ByteArray) (e r : Nat) : Bool := decide (runE s e ≠ e) && decide ((unitOf s (runE s e)).1 ≠ 0) && decide (r < (unitOf s (runE s e)).2.2)

/-- The place behind the parts, and their saturated sum. -/
def measF (s : ByteArray) : Nat → Nat → Nat → Nat → Nat × Nat
  | 0, e, _, sum => (e, sum)
  | f + 1, e, r, sum => if goesOn s e r = true then measF s f (runE s e + (unitOf s (runE s e)).1) (unitOf s (runE s e)).2.2 (min (sum + partN s e) (M + 1)) else (e, sum)
def meas (s : ByteArray) (e r sum : Nat) : Nat × Nat := measF s (s.size - e) e r sum

theorem measF_enough (s : ByteArray) : ∀ f g e r sum, s.size - e ≤ f → s.size - e ≤ g → e ≤ s.size → measF s f e r sum = measF s g e r sum := by
  have stop : ∀ e r, e = s.size → goesOn s e r = false := by
    intro e r h
    subst h
    have : runE s s.size = s.size := runE_stop (by omega)
    simp [goesOn, this]
  intro f
  induction f with
  | zero =>
    intro g e r sum h1 h2 h3
    cases g with
    | zero => rfl
    | succ g => rw [measF, measF, stop e r (by omega)]; simp
  | succ f ih =>
    intro g e r sum h1 h2 h3
    cases g with
    | zero => rw [measF, measF, stop e r (by omega)]; simp
    | succ g =>
      rw [measF, measF]
      by_cases hg : goesOn s e r = true
      · rw [if_pos hg, if_pos hg]
        have hb := runE_ge s e
        have hl := runE_le s h3
        have hu := unit_fits s (runE s e) hl
        have hne : runE s e ≠ e := by
          intro h; simp [goesOn, h] at hg
        exact ih g _ _ _ (by omega) (by omega) hu
      · rw [if_neg hg, if_neg hg]

theorem meas_step {s : ByteArray} {e r sum : Nat} (h : e ≤ s.size) (hg : goesOn s e r = true) : meas s e r sum = meas s (runE s e + (unitOf s (runE s e)).1) (unitOf s (runE s e)).2.2 (min (sum + partN s e) (M + 1)) := by
  have hb := runE_ge s e
  have hl := runE_le s h
  have hu := unit_fits s (runE s e) hl
  have hne : runE s e ≠ e := by
    intro h; simp [goesOn, h] at hg
  unfold meas
  rw [show s.size - e = (s.size - e - 1) + 1 by omega, measF, if_pos hg]
  exact measF_enough s _ _ _ _ _ (by omega) (by omega) hu
theorem meas_stop {s : ByteArray} {e r sum : Nat} (hg : goesOn s e r = false) : meas s e r sum = (e, sum) := by
  unfold meas
  cases s.size - e with
  | zero => rfl
  | succ f => rw [measF, if_neg (by rw [hg]; simp)]

/-- The end does not hang on the sum. -/
theorem measF_fst (s : ByteArray) : ∀ f e r a b, (measF s f e r a).1 = (measF s f e r b).1 := by
  intro f
  induction f with
  | zero => intros; rfl
  | succ f ih =>
    intro e r a b
    rw [measF, measF]
    split
    · exact ih _ _ _ _
    · rfl

/-- The parts' sum, if parts go on to the end. -/
def sumF (s : ByteArray) : Nat → Nat → Nat
  | 0, _ => 0
  | f + 1, e => if e < s.size then partN s e + sumF s f (runE s e + (unitOf s (runE s e)).1) else 0

theorem measF_sum (s : ByteArray) : ∀ f e r sum, e ≤ s.size → sum ≤ M + 1 → (measF s f e r sum).1 = s.size → (measF s f e r sum).2 = min (sum + sumF s f e) (M + 1) := by
  intro f
  induction f with
  | zero => intro e r sum he hs h; simp [measF, sumF]; omega
  | succ f ih =>
    intro e r sum he hs h
    rw [measF] at h ⊢
    rw [sumF]
    by_cases hg : goesOn s e r = true
    · rw [if_pos hg] at h ⊢
      have hl := runE_le s he
      have hu := unit_fits s (runE s e) hl
      have hlt : e < s.size := by
        by_cases hlt : e < s.size
        · exact hlt
        · have : runE s e = e := runE_stop (by omega)
          simp [goesOn, this] at hg
      rw [ih _ _ _ hu (by omega) h, if_pos hlt]
      omega
    · rw [if_neg hg] at h ⊢
      dsimp only at h ⊢
      rw [if_neg (by omega)]
      omega

end Go.Dur
