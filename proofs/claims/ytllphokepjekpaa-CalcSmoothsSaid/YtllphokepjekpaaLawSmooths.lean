/- weirlaw06.CalcSmooths returns true whatever comes in. -/
import Derived.Test.YtllphokepjekpaaSmooth
import Derived.Test.YtllphokepjekpaaRows
import Derived.ProofKit
import Derived.OpenShut
import Derived.Deep.Slices
namespace Go.Proofs.Ytllphokepjekpaa
open Go.Fl Go.Rel Go.RowKit

theorem half_closed : smoothS ([4607182418800017408, 4611686018427387904].map cn) (cn 4602678819172646912) (cn 4602678819172646912) = 4611686018427387904 := by decide +kernel

set_option maxHeartbeats 1000000 in
theorem law_smooths (a : Option Addr) (n cap : Nat) (xs : List Nat) (w : World) (hr : Row w a n xs) (sf tf : Nat) :
    Calls Try.prog 3 #[.slice a n cap, .float .f64 sf, .float .f64 tf] w fun e w' => e = .returned (.bool true) ∧ Below w.heap.size w w' := by
  have hne : (FloatKind.f64.format.order 4611686018427387904 4611686018427387904 != some .eq) = false := by decide +kernel
  go_enter Try.func3, Try.ntmps3
  go_wp2_with fail
  refine (smooth_any _ 2 2 [4607182418800017408, 4611686018427387904] _ ?_ _ _).mono ?_
  · exact row_two _ _ _
  · rintro e w1 ⟨r, m, rfl, hrr, rfl⟩
    rw [half_closed] at hrr
    have := eq_of_cn hrr (by decide +kernel)
    subst this
    clear hrr
    go_wp2_with fail
    refine (refsmooth_any _ _ _ xs _ ?_ _ _).mono ?_
    · exact hr.below (((Below.refl _ _).alloc (Nat.le_refl _) _).drewN' _)
    · rintro e w1 ⟨r1, m1, rfl, hr1, rfl⟩
      have H1 := Lib.hid hr1
      clear hr1
      go_wp2_with fail
      refine (smooth_any _ _ _ xs _ ?_ _ _).mono ?_
      · exact hr.below (((Below.refl _ _).alloc (Nat.le_refl _) _).drewN' _)
      · rintro e w1 ⟨r2, m2, rfl, hr2, rfl⟩
        have H2 := Lib.hid hr2
        clear hr2
        go_wp2_with fail
        refine (alike_any _ _ _).mono ?_
        rintro e w1 ⟨rfl, rfl⟩
        go_wp2_with fail
        go_ret
        refine ⟨by rw [H1.out, H2.out]; simp, ?_⟩
        exact ((Below.refl _ _).alloc (Nat.le_refl _) _).drewN' _

end Go.Proofs.Ytllphokepjekpaa
