/- The reference's reckoning is the program's. -/
import Derived.Test.YtoeldcgclaiokaaGreatRatP
import Derived.Test.YtoeldcgclaiokaaGreatRExtA
namespace Go.Proofs.YtoeldcgclaiokaaGreat
open Go.Fl Go.Rel Go.RowKit Ieee
set_option linter.unusedVariables false
set_option linter.unusedSimpArgs false

theorem extCr_eq {ss : List Smp} {m : Nat} {F T N : Int} (hm : m + 2 ≤ 17592186044416) (hs : sndB F T N ss (m + 2) = true) (counter p : Bool) : extCr (vcs ss) (tS ss) m F T counter p = extC (vcs ss) (tS ss) m F T counter p := by
  obtain ⟨d1, d2, d3, d4, _, _⟩ := snd_facts hs
  have key : extMr (extG counter (gC (vcs ss) (m + 2) counter) (at0 (vcs ss) 0)) (extA (secF (wrap64 (tS ss 0 - F))) (fmul (fdiv (secF (wrap64 (tS ss (m + 1) - tS ss 0))) (nfl (m + 1))) elev) (fdiv (secF (wrap64 (tS ss (m + 1) - tS ss 0))) (nfl (m + 1)))) (secF (wrap64 (tS ss (m + 1) - tS ss 0))) (at0 (vcs ss) 0) (gC (vcs ss) (m + 2) counter)
      = extM (extG counter (gC (vcs ss) (m + 2) counter) (at0 (vcs ss) 0)) (extA (secF (wrap64 (tS ss 0 - F))) (fmul (fdiv (secF (wrap64 (tS ss (m + 1) - tS ss 0))) (nfl (m + 1))) elev) (fdiv (secF (wrap64 (tS ss (m + 1) - tS ss 0))) (nfl (m + 1)))) (secF (wrap64 (tS ss (m + 1) - tS ss 0))) (at0 (vcs ss) 0) (gC (vcs ss) (m + 2) counter) := by
    rw [w64_small (by omega) d2, w64_small (by omega) d4]
    obtain ⟨s1, s2, s3⟩ := secF_b d3 d4
    obtain ⟨a1, a2, a3⟩ := secF_b d1 d2
    obtain ⟨m1, m2, m3⟩ := mean_b s1 s2 s3 (show 1 ≤ m + 1 by omega) (by omega)
    obtain ⟨x1, x2, x3⟩ := extA_b (H := fmul (fdiv (secF (tS ss (m + 1) - tS ss 0)) (nfl (m + 1))) elev) a1 a2 a3 m1 m2 m3
    unfold extMr extM
    by_cases hc : extG counter (gC (vcs ss) (m + 2) counter) (at0 (vcs ss) 0) = true
    · rw [if_pos hc, if_pos hc]
      unfold extG at hc
      rw [Bool.and_eq_true, Bool.and_eq_true] at hc
      obtain ⟨⟨hcc, hg⟩, hv⟩ := hc
      subst hcc
      have hvi : double.read (at0 (vcs ss) 0) ≠ .infinity false := by
        intro he
        have hlow : Low (gC (vcs ss) (m + 2) true) := low_gK he _
        rw [low_not hlow] at hg
        cases hg
      have hz := z_notN s1 (by grind) hv hvi hg
      refine min_eq x1 (by grind) hz ?_ (mul_word hz)
      unfold extA
      split
      · rename_i hh
        refine div_word ?_
        have := isF_notN x1
        unfold extA at this
        rwa [if_pos hh] at this
      · rename_i hh
        exact div_word (x := wz _) (isF_notN a1)
    · rw [if_neg hc, if_neg hc]
  unfold extCr extC
  simp only [key]
end Go.Proofs.YtoeldcgclaiokaaGreat
