/- The date by formula is a date, and its day is the day asked for. -/
import Derived.Test.YtmgnhekpgeahmaaDoorCalLaw
namespace Go.Proofs.YtmgnhekpgeahmaaDoor

theorem civ_early (n era doe yo doy mp : Int) (h3 : era = (n + 719468) / 146097 ∧ doe = (n + 719468) % 146097) (y0 : 0 ≤ yo) (y1 : yo ≤ 399)
    (y2 : 365 * yo + yo / 4 - yo / 100 ≤ doe) (y3 : doe < 365 * (yo + 1) + (yo + 1) / 4 - (yo + 1) / 100 + (yo + 1) / 400)
    (hd : doe - (365 * yo + yo / 4 - yo / 100) = doy) (hm : (5 * doy + 2) / 153 = mp) (m1 : mp ≤ 11) (hc : 12 < mp + 3) :
    dayNum (era * 400 + yo + 1) (mp + 3 - 12) (doy - (153 * mp + 2) / 5 + 1) = n ∧ doy - (153 * mp + 2) / 5 + 1 ≤ mdays (era * 400 + yo + 1) (mp + 3 - 12) := by
  constructor
  · unfold dayNum doyM
    simp only [if_pos (show mp + 3 - 12 ≤ 2 by omega)]
    rw [show (era * 400 + yo + 1 - 1) / 400 = era by omega, show (era * 400 + yo + 1 - 1) % 400 = yo by omega, show 153 * (mp + 3 - 12 + 12 - 3) + 2 = 153 * mp + 2 by omega]
    obtain ⟨h4, h5⟩ := h3
    have h6 : n + 719468 = era * 146097 + doe := by omega
    clear h4 h5 hm y2 y3
    omega
  · have hle : doy ≤ 365 := by clear h3 hm; omega
    clear h3
    rcases (show mp = 10 ∨ mp = 11 by omega) with rfl | rfl
    · rcases mdays_at (era * 400 + yo + 1) (10 + 3 - 12) (by omega) (by omega) with ⟨h, _⟩ | ⟨h, _⟩ | ⟨_, h⟩
      · omega
      · omega
      · rw [h]; omega
    · rcases mdays_at (era * 400 + yo + 1) (11 + 3 - 12) (by omega) (by omega) with ⟨_, h⟩ | ⟨h, _⟩ | ⟨h, _⟩
      · rw [h]
        rcases ydays_cases (era * 400 + yo + 1) with ⟨_, _, e⟩ | ⟨e1, e⟩
        · rw [e]; clear y2 y3 hd; omega
        · rw [e]
          have : doy ≠ 365 := by
            intro h5
            apply e1
            have a1 : (era * 400 + yo + 1) % 4 = (yo + 1) % 4 := by omega
            have a2 : (era * 400 + yo + 1) % 100 = (yo + 1) % 100 := by omega
            have a3 : (era * 400 + yo + 1) % 400 = (yo + 1) % 400 := by omega
            rw [a1, a2, a3]
            clear a1 a2 a3 e1 h e
            omega
          clear y2 y3 hd e1
          omega
      · omega
      · omega

theorem civ_late (n era doe yo doy mp : Int) (h3 : era = (n + 719468) / 146097 ∧ doe = (n + 719468) % 146097) (y0 : 0 ≤ yo) (y1 : yo ≤ 399)
    (hd : doe - (365 * yo + yo / 4 - yo / 100) = doy) (hm : (5 * doy + 2) / 153 = mp) (m0 : 0 ≤ mp) (hc : ¬ 12 < mp + 3) :
    dayNum (era * 400 + yo) (mp + 3) (doy - (153 * mp + 2) / 5 + 1) = n ∧ doy - (153 * mp + 2) / 5 + 1 ≤ mdays (era * 400 + yo) (mp + 3) := by
  constructor
  · unfold dayNum doyM
    simp only [if_neg (show ¬ mp + 3 ≤ 2 by omega)]
    rw [show (era * 400 + yo) / 400 = era by omega, show (era * 400 + yo) % 400 = yo by omega, show 153 * (mp + 3 - 3) + 2 = 153 * mp + 2 by omega]
    obtain ⟨h4, h5⟩ := h3
    have h6 : n + 719468 = era * 146097 + doe := by omega
    clear h4 h5 hm
    omega
  · clear h3 hd
    rcases mdays_at (era * 400 + yo) (mp + 3) (by omega) (by omega) with ⟨h, _⟩ | ⟨h1, h⟩ | ⟨h1, h⟩
    · omega
    · rw [h]; omega
    · rw [h]; omega

end Go.Proofs.YtmgnhekpgeahmaaDoor
