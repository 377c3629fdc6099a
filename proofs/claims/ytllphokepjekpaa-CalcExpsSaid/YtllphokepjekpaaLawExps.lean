/- weirlaw06.CalcExps returns true whatever comes in. -/
import Derived.Test.YtllphokepjekpaaLogL
namespace Go.Proofs.Ytllphokepjekpaa
open Go.Fl Go.Rel Go.RowKit

theorem exp_closed : expS (cn 0) = 4607182418800017408 := by decide +kernel
theorem log2_closed : log2S (cn 4620693217682128896) = 4613937818241073152 := by
  have hl : LP (cn 4620693217682128896) 4607182418800017408 3 := ⟨by decide +kernel, by decide +kernel, 0, 3, by decide +kernel, by decide⟩
  rw [log2S_none (by decide +kernel) hl]
  decide +kernel

set_option maxHeartbeats 4000000 in
set_option maxRecDepth 100000 in
theorem law_exps (x : Nat) (w : World) (h64 : W64 x) :
    Calls Try.prog 9 #[.float .f64 x] w fun e w' => e = .returned (.bool true) ∧ Below w.heap.size w w' := by
  have hne : (FloatKind.f64.format.order 4607182418800017408 4607182418800017408 != some .eq) = false := by decide +kernel
  have hne2 : (FloatKind.f64.format.order 4613937818241073152 4613937818241073152 != some .eq) = false := by decide +kernel
  have H64 := Lib.hid h64
  have H8 : Hid (W64 4620693217682128896) := Lib.hid (by unfold W64; decide +kernel)
  clear h64
  go_enter Try.func9, Try.ntmps9
  go_wp2_with fail
  refine (exp_any _ _).mono ?_
  rintro e w1 ⟨r, n, rfl, hr, rfl⟩
  rw [exp_closed] at hr
  have := eq_of_cn hr (by decide +kernel)
  subst this
  clear hr
  go_wp2_with fail
  refine (log2_any _ _ H8.out).mono ?_
  rintro e w1 ⟨r, n2, rfl, hr, rfl⟩
  rw [log2_closed] at hr
  have := eq_of_cn hr (by decide +kernel)
  subst this
  clear hr
  go_wp2_with (first | (go_at_call 32; refine (exp_any _ _).mono ?_; rintro e w' ⟨a1, n1, rfl, ha1, rfl⟩; have HA1 := Lib.hid ha1; clear ha1) | (go_at_call 36; refine (refexp_any _ _).mono ?_; rintro e w' ⟨b1, m1, rfl, hb1, rfl⟩; have HB1 : (cn a1 == cn b1) = true := (by rw [HA1.out, hb1]; simp); clear hb1) | (go_at_call 34; refine (ln_any _ _ H64.out).mono ?_; rintro e w' ⟨a2, n2, rfl, ha2, rfl⟩; have HA2 := Lib.hid ha2; clear ha2) | (go_at_call 37; refine (refln_any _ _ H64.out).mono ?_; rintro e w' ⟨b2, m2, rfl, hb2, rfl⟩; have HB2 : (cn a2 == cn b2) = true := (by rw [HA2.out, hb2]; simp); clear hb2) | (go_at_call 35; refine (log2_any _ _ H64.out).mono ?_; rintro e w' ⟨a3, n3, rfl, ha3, rfl⟩; have HA3 := Lib.hid ha3; clear ha3) | (go_at_call 38; refine (reflog2_any _ _ H64.out).mono ?_; rintro e w' ⟨b3, m3, rfl, hb3, rfl⟩; have HB3 : (cn a3 == cn b3) = true := (by rw [HA3.out, hb3]; simp); clear hb3) | (go_at_call 39; refine (log10_any _ _ H64.out).mono ?_; rintro e w' ⟨a4, n4, rfl, ha4, rfl⟩; have HA4 := Lib.hid ha4; clear ha4) | (go_at_call 40; refine (reflog10_any _ _ H64.out).mono ?_; rintro e w' ⟨b4, m4, rfl, hb4, rfl⟩; have HB4 : (cn a4 == cn b4) = true := (by rw [HA4.out, hb4]; simp); clear hb4) | (go_at_call 17; refine (alike_any _ _ _).mono ?_; rintro e w' ⟨rfl, rfl⟩; rw [HB1]) | (go_at_call 17; refine (alike_any _ _ _).mono ?_; rintro e w' ⟨rfl, rfl⟩; rw [HB2]) | (go_at_call 17; refine (alike_any _ _ _).mono ?_; rintro e w' ⟨rfl, rfl⟩; rw [HB3]) | (go_at_call 17; refine (alike_any _ _ _).mono ?_; rintro e w' ⟨rfl, rfl⟩; rw [HB4]))
  go_ret
  exact ⟨rfl, by repeat (first | exact Below.refl _ _ | refine Below.drewN' ?_ _)⟩

end Go.Proofs.Ytllphokepjekpaa
