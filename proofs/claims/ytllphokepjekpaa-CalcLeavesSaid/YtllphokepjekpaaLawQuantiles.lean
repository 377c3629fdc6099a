/- weirlaw06.CalcQuantiles returns true whatever comes in. -/
import Derived.Test.YtllphokepjekpaaQuant
import Derived.Test.YtllphokepjekpaaOpenW
namespace Go.Proofs.Ytllphokepjekpaa
open Go.Fl Go.Rel Go.RowKit

theorem sort_closed : sortC ([4613937818241073152, 4607182418800017408, 4611686018427387904].map cn) = [4607182418800017408, 4611686018427387904, 4613937818241073152] := by
  have e : [4613937818241073152, 4607182418800017408, 4611686018427387904].map cn = [4613937818241073152] ++ ([4607182418800017408] ++ [4611686018427387904]) := by decide +kernel
  unfold sortC
  rw [e, ← merge_sorts leF leF_trans leF_total, ← merge_sorts leF leF_trans leF_total, List.mergeSort_singleton, List.mergeSort_singleton, List.mergeSort_singleton]
  rw [List.cons_merge_cons_pos leF [] [] (show leF 4607182418800017408 4611686018427387904 = true by decide +kernel), List.nil_merge]
  rw [List.cons_merge_cons_neg leF [] _ (show ¬ leF 4613937818241073152 4607182418800017408 = true by decide +kernel), List.cons_merge_cons_neg leF [] _ (show ¬ leF 4613937818241073152 4611686018427387904 = true by decide +kernel), List.merge_right]

theorem quant_closed : quantS (cn 4602678819172646912) ([4613937818241073152, 4607182418800017408, 4611686018427387904].map cn) = 4611686018427387904 := by
  unfold quantS
  rw [if_neg (by decide +kernel), if_neg (by decide +kernel), if_neg (by decide +kernel), if_neg (by decide +kernel), sort_closed]
  decide +kernel

theorem row_three (w : World) (x y z : Nat) : Row (w.alloc (.cells #[.float .f64 x, .float .f64 y, .float .f64 z] 23)) (some ⟨w.heap.size, 0, none⟩) 3 [x, y, z] := by
  refine ⟨rfl, by omega, fun _ => ⟨_, _, rfl, fun i hi => ?_⟩⟩
  match i, hi with
  | 0, _ => rw [World.cell?_alloc_at _ _ _ _ rfl]; rfl
  | 1, _ => rw [World.cell?_alloc_at _ _ _ _ rfl]; rfl
  | 2, _ => rw [World.cell?_alloc_at _ _ _ _ rfl]; rfl

set_option maxHeartbeats 1000000 in
theorem law_quantiles (q : Nat) (a : Option Addr) (n cap : Nat) (xs : List Nat) (w : World) (hr : Row w a n xs) (hs : SlOk a n cap) (h64 : ∀ x ∈ xs, W64 x) (hb : n < 17592186044416) :
    Calls Try.prog 12 #[.float .f64 q, .slice a n cap] w fun e w' => e = .returned (.bool true) ∧ Below w.heap.size w w' := by
  have hne : (FloatKind.f64.format.order 4611686018427387904 4611686018427387904 != some .eq) = false := by decide +kernel
  have HR := Lib.hid hr
  have HS := Lib.hid hs
  have H64 := Lib.hid h64
  clear hr hs h64
  go_enter Try.func12, Try.ntmps12
  go_wp2_with fail
  refine (quant_any _ _ 3 3 [4613937818241073152, 4607182418800017408, 4611686018427387904] _ (row_three _ _ _ _) ⟨Nat.le_refl _, fun h => by cases h⟩ (by omega)).mono ?_
  rintro e w1 ⟨r, rfl, hrr, b1⟩
  rw [quant_closed] at hrr
  have := eq_of_cn hrr (by decide +kernel)
  subst this
  have c1 : Below w.heap.size w w1 := ((Below.refl _ _).alloc (Nat.le_refl _) _).trans (b1.mono (by simp))
  clear hrr b1
  go_wp2_with fail
  refine (refquant_any _ _ _ _ xs _ (HR.out.below c1) HS.out H64.out hb).mono ?_
  rintro e w2 ⟨r1, rfl, hr1, b2⟩
  have H1 := Lib.hid hr1
  have c2 := c1.trans (b2.mono c1.size)
  clear hr1 b2
  go_wp2_with fail
  refine (quant_any _ _ _ _ xs _ (HR.out.below c2) HS.out hb).mono ?_
  rintro e w3 ⟨r2, rfl, hr2, b3⟩
  have H2 := Lib.hid hr2
  have c3 := c2.trans (b3.mono c2.size)
  clear hr2 b3
  go_wp2_with fail
  refine (alike_any _ _ _).mono ?_
  rintro e w4 ⟨rfl, rfl⟩
  go_wp2_with fail
  go_ret
  exact ⟨by rw [H1.out, H2.out]; simp, c3⟩

end Go.Proofs.Ytllphokepjekpaa
