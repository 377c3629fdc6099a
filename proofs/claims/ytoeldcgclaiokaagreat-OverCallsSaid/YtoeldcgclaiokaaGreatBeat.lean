/- Beat on both sides. -/
import Derived.Test.YtoeldcgclaiokaaGreatTurnAll
import Derived.Test.YtoeldcgclaiokaaGreatSpreadAll
namespace Go.Proofs.YtoeldcgclaiokaaGreat
open Go.Fl Go.Rel Go.RowKit

def beatS (vs ks : List Nat) (p : Int) : Nat :=
  if vs.length = 0 ∨ p < 1 ∨ 315360000000000 < p then nanc else
  fdiv (fsqrt (fadd (fmul (turnS vs ks p).1 (turnS vs ks p).1) (fmul (turnS vs ks p).2 (turnS vs ks p).2))) (nfl vs.length)

set_option maxHeartbeats 4000000 in
set_option maxRecDepth 100000 in
theorem beat_any (a : Option Addr) (n cap : Nat) (ss : List Smp) (p : Int) (w : World) (hr : SRow w a n ss) :
    Calls Tryz.prog 83 #[.slice a n cap, .int .i64 p] w (FB (beatS (vcs ss) (eigs ss p) p) w) := by
  have hl := hr.1
  have hm := hr.2.1
  by_cases h0 : n = 0
  · have hs : beatS (vcs ss) (eigs ss p) p = nanc := by unfold beatS; rw [if_pos (.inl (by rw [length_vcs, hl, h0]))]
    have HS := Lib.hid hs
    subst h0
    clear hs
    go_enter Tryz.func83, Tryz.ntmps83
    go_wp2_with (go_at_call 56; refine (nan_any _).mono ?_; rintro e w' ⟨rfl, rfl⟩)
    go_ret
    exact ⟨nanc, rfl, by rw [HS.out]; exact cn_nanc, Below.refl _ _⟩
  · have hn0 : ((n : Int) == 0) = false := by simp; omega
    by_cases h1 : p < 1
    · have hs : beatS (vcs ss) (eigs ss p) p = nanc := by unfold beatS; rw [if_pos (.inr (.inl h1))]
      have HS := Lib.hid hs
      have d1 : decide (p < 1) = true := decide_eq_true h1
      clear hs
      go_enter Tryz.func83, Tryz.ntmps83
      go_wp2_with (go_at_call 56; refine (nan_any _).mono ?_; rintro e w' ⟨rfl, rfl⟩)
      go_ret
      exact ⟨nanc, rfl, by rw [HS.out]; exact cn_nanc, Below.refl _ _⟩
    · have d1 : decide (p < 1) = false := decide_eq_false h1
      by_cases h2 : 315360000000000 < p
      · have hs : beatS (vcs ss) (eigs ss p) p = nanc := by unfold beatS; rw [if_pos (.inr (.inr h2))]
        have HS := Lib.hid hs
        have d2 : decide (p > 315360000000000) = true := decide_eq_true h2
        clear hs
        go_enter Tryz.func83, Tryz.ntmps83
        go_wp2_with (go_at_call 56; refine (nan_any _).mono ?_; rintro e w' ⟨rfl, rfl⟩)
        go_ret
        exact ⟨nanc, rfl, by rw [HS.out]; exact cn_nanc, Below.refl _ _⟩
      · have d2 : decide (p > 315360000000000) = false := decide_eq_false h2
        have hs : beatS (vcs ss) (eigs ss p) p = fdiv (fsqrt (fadd (fmul (turnS (vcs ss) (eigs ss p) p).1 (turnS (vcs ss) (eigs ss p) p).1) (fmul (turnS (vcs ss) (eigs ss p) p).2 (turnS (vcs ss) (eigs ss p) p).2))) (nfl n) := by
          unfold beatS; rw [if_neg (by rw [length_vcs, hl]; omega), length_vcs, hl]
        have HS := Lib.hid hs
        have hnk := cn_nfl n
        have HNK := Lib.hid hnk
        clear hs h0 h1 h2 hnk
        go_enter Tryz.func83, Tryz.ntmps83
        go_wp2_with fail
        refine (turn_any a n cap ss p _ hr).mono ?_
        rintro e w1 ⟨r, q, rfl, h1, h2, b1⟩
        have H1 := Lib.hid h1
        have H2 := Lib.hid h2
        clear h1 h2
        go_wp2_with (first | (refine wpList_fop _ _ _ _ _ _ _ rfl rfl rfl ?_; intro r3 nq hr9) | (go_at_call 59; refine (sqrt_any _ _).mono ?_; rintro e w1 ⟨r5, m, rfl, hsq, rfl⟩; have HSQ := Lib.hid hsq; clear hsq))
        go_ret
        refine ⟨_, rfl, ?_, ?_⟩
        · rw [HS.out]
          have hnk : cn (floatOfInt .f64 (n : Int)) = nfl n := HNK.out
          simp only [fop_quo, fop_mul, fop_add, HSQ.out, H1.out, H2.out, *]
        · repeat (first | exact b1 | refine Below.drewN' ?_ _)

set_option maxHeartbeats 4000000 in
set_option maxRecDepth 100000 in
theorem refbeat_any (a : Option Addr) (n cap : Nat) (ss : List Smp) (p : Int) (w : World) (hr : SRow w a n ss) :
    Calls Tryz.prog 39 #[.slice a n cap, .int .i64 p] w (FB (beatS (vcs ss) (eigs ss p) p) w) := by
  have hl := hr.1
  have hm := hr.2.1
  by_cases h0 : n = 0
  · have hs : beatS (vcs ss) (eigs ss p) p = nanc := by unfold beatS; rw [if_pos (.inl (by rw [length_vcs, hl, h0]))]
    have HS := Lib.hid hs
    subst h0
    clear hs
    go_enter Tryz.func39, Tryz.ntmps39
    go_wp2_with (go_at_call 27; refine (refnan_any _).mono ?_; rintro e w' ⟨rfl, rfl⟩)
    go_ret
    exact ⟨nanc, rfl, by rw [HS.out]; exact cn_nanc, Below.refl _ _⟩
  · have hn0 : ((n : Int) == 0) = false := by simp; omega
    by_cases h1 : p < 1
    · have hs : beatS (vcs ss) (eigs ss p) p = nanc := by unfold beatS; rw [if_pos (.inr (.inl h1))]
      have HS := Lib.hid hs
      have d1 : decide (p < 1) = true := decide_eq_true h1
      clear hs
      go_enter Tryz.func39, Tryz.ntmps39
      go_wp2_with (go_at_call 27; refine (refnan_any _).mono ?_; rintro e w' ⟨rfl, rfl⟩)
      go_ret
      exact ⟨nanc, rfl, by rw [HS.out]; exact cn_nanc, Below.refl _ _⟩
    · have d1 : decide (p < 1) = false := decide_eq_false h1
      by_cases h2 : 315360000000000 < p
      · have hs : beatS (vcs ss) (eigs ss p) p = nanc := by unfold beatS; rw [if_pos (.inr (.inr h2))]
        have HS := Lib.hid hs
        have d2 : decide (p > 315360000000000) = true := decide_eq_true h2
        clear hs
        go_enter Tryz.func39, Tryz.ntmps39
        go_wp2_with (go_at_call 27; refine (refnan_any _).mono ?_; rintro e w' ⟨rfl, rfl⟩)
        go_ret
        exact ⟨nanc, rfl, by rw [HS.out]; exact cn_nanc, Below.refl _ _⟩
      · have d2 : decide (p > 315360000000000) = false := decide_eq_false h2
        have hs : beatS (vcs ss) (eigs ss p) p = fdiv (fsqrt (fadd (fmul (turnS (vcs ss) (eigs ss p) p).1 (turnS (vcs ss) (eigs ss p) p).1) (fmul (turnS (vcs ss) (eigs ss p) p).2 (turnS (vcs ss) (eigs ss p) p).2))) (nfl n) := by
          unfold beatS; rw [if_neg (by rw [length_vcs, hl]; omega), length_vcs, hl]
        have HS := Lib.hid hs
        have hnk := cn_nfl n
        have HNK := Lib.hid hnk
        clear hs h0 h1 h2 hnk
        go_enter Tryz.func39, Tryz.ntmps39
        go_wp2_with fail
        refine (refturn_any a n cap ss p _ hr).mono ?_
        rintro e w1 ⟨r, q, rfl, h1, h2, b1⟩
        have H1 := Lib.hid h1
        have H2 := Lib.hid h2
        clear h1 h2
        go_wp2_with (first | (refine wpList_fop _ _ _ _ _ _ _ rfl rfl rfl ?_; intro r3 nq hr9) | (go_at_call 59; refine (sqrt_any _ _).mono ?_; rintro e w1 ⟨r5, m, rfl, hsq, rfl⟩; have HSQ := Lib.hid hsq; clear hsq))
        go_ret
        refine ⟨_, rfl, ?_, ?_⟩
        · rw [HS.out]
          have hnk : cn (floatOfInt .f64 (n : Int)) = nfl n := HNK.out
          simp only [fop_quo, fop_mul, fop_add, HSQ.out, H1.out, H2.out, *]
        · repeat (first | exact b1 | refine Below.drewN' ?_ _)

end Go.Proofs.YtoeldcgclaiokaaGreat
