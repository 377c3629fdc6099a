/- A date is told by its day's number; the day behind a date. -/
import Derived.Test.YtmgnhekpgeahmaaDoorCalLaw
namespace Go.Proofs.YtmgnhekpgeahmaaDoor

theorem mcum_mono (y : Int) (a k : Nat) : mcum y a ≤ mcum y (a + k) := by
  induction k with
  | zero => exact Int.le_refl _
  | succ k ih =>
    have := mdays_bd' y (((a + k : Nat) : Int) + 1)
    have e : mcum y (a + (k + 1)) = mcum y (a + k) + mdays y (((a + k : Nat) : Int) + 1) := rfl
    omega

theorem mcum_year (y : Int) : mcum y 12 = ydays y := by
  have h := fun m h1 h2 => mdays_at y m h1 h2
  have f := mdays_feb y
  have e : mcum y 12 = mdays y 1 + mdays y 2 + mdays y 3 + mdays y 4 + mdays y 5 + mdays y 6 + mdays y 7 + mdays y 8 + mdays y 9 + mdays y 10 + mdays y 11 + mdays y 12 := by
    simp only [mcum]; simp
  have v : ∀ m : Int, (m = 1 ∨ m = 3 ∨ m = 5 ∨ m = 7 ∨ m = 8 ∨ m = 10 ∨ m = 12) → mdays y m = 31 := fun m hm => by
    rcases h m (by omega) (by omega) with ⟨a, _⟩ | ⟨a, _⟩ | ⟨_, a⟩
    · omega
    · omega
    · exact a
  have u : ∀ m : Int, (m = 4 ∨ m = 6 ∨ m = 9 ∨ m = 11) → mdays y m = 30 := fun m hm => by
    rcases h m (by omega) (by omega) with ⟨a, _⟩ | ⟨_, a⟩ | ⟨a, _⟩
    · omega
    · exact a
    · omega
  rw [e, v 1 (by omega), v 3 (by omega), v 5 (by omega), v 7 (by omega), v 8 (by omega), v 10 (by omega), v 12 (by omega), u 4 (by omega), u 6 (by omega), u 9 (by omega), u 11 (by omega), f]
  omega

/-- Where a date stands in its year. -/
theorem dayNum_off (y m d : Int) (m0 : 1 ≤ m) (m1 : m ≤ 12) : ∃ k : Nat, (k : Int) + 1 = m ∧ k ≤ 11 ∧ dayNum y m d = dayNum y 1 1 + mcum y k + d - 1 := by
  obtain ⟨k, hk⟩ := Int.eq_ofNat_of_zero_le (show 0 ≤ m - 1 by omega)
  refine ⟨k, by omega, by omega, ?_⟩
  have h := dayNum_cum y d k (by omega)
  rw [show (k : Int) + 1 = m by omega] at h
  have h' := dayNum_day y 1 1 (d - 1)
  rw [show (1 : Int) + (d - 1) = d by omega] at h'
  omega

theorem mcum_next (y : Int) (k : Nat) (m : Int) (hk : (k : Int) + 1 = m) : mcum y (k + 1) = mcum y k + mdays y m := by
  rw [← hk]; rfl

theorem in_year (y m d : Int) (m0 : 1 ≤ m) (m1 : m ≤ 12) (d0 : 1 ≤ d) (d1 : d ≤ mdays y m) : dayNum y 1 1 ≤ dayNum y m d ∧ dayNum y m d < dayNum y 1 1 + ydays y := by
  obtain ⟨k, hk, hk1, h⟩ := dayNum_off y m d m0 m1
  have a := mcum_bd y k
  have b := mcum_next y k m hk
  have c := mcum_mono y (k + 1) (11 - k)
  rw [show k + 1 + (11 - k) = 12 by omega, mcum_year] at c
  omega

theorem year_mono (y : Int) (k : Nat) : dayNum y 1 1 + 365 * (k : Int) ≤ dayNum (y + k) 1 1 := by
  induction k with
  | zero => simp
  | succ k ih =>
    have h := dayNum_year (y + k)
    have b := ydays_bd (y + k)
    rw [show y + ((k + 1 : Nat) : Int) = y + k + 1 by omega]
    omega

theorem date_lt (y m d y2 m2 d2 : Int) (m0 : 1 ≤ m) (m1 : m ≤ 12) (d0 : 1 ≤ d) (d1 : d ≤ mdays y m) (n0 : 1 ≤ m2) (n1 : m2 ≤ 12) (e0 : 1 ≤ d2) (e1 : d2 ≤ mdays y2 m2)
    (h : y < y2 ∨ (y = y2 ∧ m < m2) ∨ (y = y2 ∧ m = m2 ∧ d < d2)) : dayNum y m d < dayNum y2 m2 d2 := by
  rcases h with h | ⟨rfl, h⟩ | ⟨rfl, rfl, h⟩
  · have a := in_year y m d m0 m1 d0 d1
    have b := in_year y2 m2 d2 n0 n1 e0 e1
    have c := dayNum_year y
    have e := year_mono (y + 1) (y2 - y - 1).toNat
    rw [show y + 1 + ((y2 - y - 1).toNat : Int) = y2 by omega] at e
    omega
  · obtain ⟨k, hk, hk1, a⟩ := dayNum_off y m d m0 m1
    obtain ⟨l, hl, hl1, b⟩ := dayNum_off y m2 d2 n0 n1
    have c := mcum_next y k m hk
    have e := mcum_mono y (k + 1) (l - (k + 1))
    rw [show k + 1 + (l - (k + 1)) = l by omega] at e
    omega
  · have a := dayNum_day y m d (d2 - d)
    rw [show d + (d2 - d) = d2 by omega] at a
    omega

/-- The day behind a date. -/
def nextIs (y m d y2 m2 d2 : Int) : Prop :=
  (d < mdays y m ∧ y2 = y ∧ m2 = m ∧ d2 = d + 1) ∨ (d = mdays y m ∧ m < 12 ∧ y2 = y ∧ m2 = m + 1 ∧ d2 = 1) ∨ (d = mdays y m ∧ m = 12 ∧ y2 = y + 1 ∧ m2 = 1 ∧ d2 = 1)

theorem same_date (y m d y2 m2 d2 : Int) (m0 : 1 ≤ m) (m1 : m ≤ 12) (d0 : 1 ≤ d) (d1 : d ≤ mdays y m) (n0 : 1 ≤ m2) (n1 : m2 ≤ 12) (e0 : 1 ≤ d2) (e1 : d2 ≤ mdays y2 m2)
    (h : dayNum y m d = dayNum y2 m2 d2) : y2 = y ∧ m2 = m ∧ d2 = d := by
  by_cases a : y = y2 ∧ m = m2 ∧ d = d2
  · omega
  · exfalso
    by_cases b : y < y2 ∨ (y = y2 ∧ m < m2) ∨ (y = y2 ∧ m = m2 ∧ d < d2)
    · have := date_lt y m d y2 m2 d2 m0 m1 d0 d1 n0 n1 e0 e1 b; omega
    · have := date_lt y2 m2 d2 y m d n0 n1 e0 e1 m0 m1 d0 d1 (by omega); omega

theorem next_date (y m d y2 m2 d2 : Int) (m0 : 1 ≤ m) (m1 : m ≤ 12) (d0 : 1 ≤ d) (d1 : d ≤ mdays y m) (n0 : 1 ≤ m2) (n1 : m2 ≤ 12) (e0 : 1 ≤ d2) (e1 : d2 ≤ mdays y2 m2)
    (h : dayNum y2 m2 d2 = dayNum y m d + 1) : nextIs y m d y2 m2 d2 := by
  by_cases a : d < mdays y m
  · have b := dayNum_day y m d 1
    have := same_date y m (d + 1) y2 m2 d2 m0 m1 (by omega) (by omega) n0 n1 e0 e1 (by omega)
    exact .inl ⟨a, this⟩
  · have e : d = mdays y m := by omega
    by_cases c : m < 12
    · have b := dayNum_month y m 1 m0 (by omega)
      have b' := dayNum_day y m 1 (d - 1)
      rw [show (1 : Int) + (d - 1) = d by omega] at b'
      have k := mdays_bd' y (m + 1)
      have := same_date y (m + 1) 1 y2 m2 d2 (by omega) (by omega) (by omega) (by omega) n0 n1 e0 e1 (by omega)
      exact .inr (.inl ⟨e, c, this⟩)
    · have hm : m = 12 := by omega
      subst hm
      have b := dayNum_off y 12 d (by omega) (by omega)
      obtain ⟨k, hk, _, b⟩ := b
      obtain rfl : k = 11 := by omega
      have c1 := mcum_next y 11 12 (by omega)
      rw [mcum_year] at c1
      have c2 := dayNum_year y
      have k := mdays_bd' (y + 1) 1
      have := same_date (y + 1) 1 1 y2 m2 d2 (by omega) (by omega) (by omega) (by omega) n0 n1 e0 e1 (by omega)
      exact .inr (.inr ⟨e, rfl, this⟩)

theorem last_day (y d : Int) (h : d = mdays y 12) : dayNum y 12 d = dayNum y 1 1 + ydays y - 1 := by
  obtain ⟨k, hk, _, b⟩ := dayNum_off y 12 d (by omega) (by omega)
  obtain rfl : k = 11 := by omega
  have c1 := mcum_next y 11 12 (by omega)
  rw [mcum_year] at c1
  omega

end Go.Proofs.YtmgnhekpgeahmaaDoor
