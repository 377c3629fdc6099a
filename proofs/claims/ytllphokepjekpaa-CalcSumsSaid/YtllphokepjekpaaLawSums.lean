/- weirlaw06.CalcSums returns true whatever comes in. -/
import Derived.Test.YtllphokepjekpaaSpread
namespace Go.Proofs.Ytllphokepjekpaa
open Go.Fl Go.Rel Go.RowKit

theorem sums_closed : sumS ([4607182418800017408, 4611686018427387904].map cn) = 4613937818241073152 := by decide +kernel

set_option maxHeartbeats 1000000 in
theorem law_sums (a : Option Addr) (n cap : Nat) (xs : List Nat) (w : World) (hr : Row w a n xs) (hreach : n < 17592186044416) :
    Calls Try.prog 5 #[.slice a n cap] w fun e w' => e = .returned (.bool true) ∧ Below w.heap.size w w' := by
  have hne : (FloatKind.f64.format.order 4613937818241073152 4613937818241073152 != some .eq) = false := by decide +kernel
  go_enter Try.func5, Try.ntmps5
  go_wp2_with fail
  refine (sum_any _ 2 2 [4607182418800017408, 4611686018427387904] _ (row_two _ _ _)).mono ?_
  rintro e w1 ⟨r, rfl, hrr, b1⟩
  rw [sums_closed] at hrr
  have := eq_of_cn hrr (by decide +kernel)
  subst this
  clear hrr
  have c1 : Below w.heap.size w w1 := ((Below.refl _ _).alloc (Nat.le_refl _) _).trans (b1.mono (by simp))
  go_wp2_with fail
  refine (refsum_any _ _ _ xs _ (hr.below c1)).mono ?_
  rintro e w2 ⟨r2, m2, rfl, h2, rfl⟩
  have H2 := Lib.hid h2
  clear h2
  have c2 := c1.drewN' m2
  go_wp2_with fail
  refine (refmean_any _ _ _ xs _ (hr.below c2) hreach).mono ?_
  rintro e w3 ⟨r3, rfl, h3, b3⟩
  have H3 := Lib.hid h3
  clear h3
  have c3 := c2.trans (b3.mono c2.size)
  go_wp2_with fail
  refine (refvar_any _ _ _ xs _ (hr.below c3) hreach).mono ?_
  rintro e w4 ⟨r4, rfl, h4, b4⟩
  have H4 := Lib.hid h4
  clear h4
  have c4 := c3.trans (b4.mono c3.size)
  go_wp2_with fail
  refine (refspread_any _ _ _ xs _ (hr.below c4) hreach).mono ?_
  rintro e w5 ⟨r5, rfl, h5, b5⟩
  have H5 := Lib.hid h5
  clear h5
  have c5 := c4.trans (b5.mono c4.size)
  go_wp2_with fail
  refine (sum_any _ _ _ xs _ (hr.below c5)).mono ?_
  rintro e w6 ⟨r6, rfl, h6, b6⟩
  have c6 := c5.trans (b6.mono c5.size)
  have hb6 : (cn r6 == cn r2) = true := by rw [h6, H2.out]; simp
  clear h6
  go_wp2_with (go_at_call 17; refine (alike_any _ _ _).mono ?_; rintro e w' ⟨rfl, rfl⟩; rw [hb6])
  refine (mean_any _ _ _ xs _ (hr.below c6)).mono ?_
  rintro e w7 ⟨r7, rfl, h7, b7⟩
  have c7 := c6.trans (b7.mono c6.size)
  have hb7 : (cn r7 == cn r3) = true := by rw [h7, H3.out]; simp
  clear h7
  go_wp2_with (go_at_call 17; refine (alike_any _ _ _).mono ?_; rintro e w' ⟨rfl, rfl⟩; rw [hb7])
  refine (var_any _ _ _ xs _ (hr.below c7)).mono ?_
  rintro e w8 ⟨r8, rfl, h8, b8⟩
  have c8 := c7.trans (b8.mono c7.size)
  have hb8 : (cn r8 == cn r4) = true := by rw [h8, H4.out]; simp
  clear h8
  go_wp2_with (go_at_call 17; refine (alike_any _ _ _).mono ?_; rintro e w' ⟨rfl, rfl⟩; rw [hb8])
  refine (spread_any _ _ _ xs _ (hr.below c8)).mono ?_
  rintro e w9 ⟨r9, rfl, h9, b9⟩
  have c9 := c8.trans (b9.mono c8.size)
  have hb9 : (cn r9 == cn r5) = true := by rw [h9, H5.out]; simp
  clear h9
  go_wp2_with (go_at_call 17; refine (alike_any _ _ _).mono ?_; rintro e w' ⟨rfl, rfl⟩; rw [hb9])
  go_ret
  exact ⟨rfl, c9⟩

end Go.Proofs.Ytllphokepjekpaa
