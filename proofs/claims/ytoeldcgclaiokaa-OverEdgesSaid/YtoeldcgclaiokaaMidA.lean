/- over.middle: the middle of the distances from the middle. -/
import Derived.Test.YtoeldcgclaiokaaQuant
import Derived.Test.YtoeldcgclaiokaaFill
namespace Go.Proofs.Ytoeldcgclaiokaa
open Go.Fl Go.Rel Go.RowKit
set_option linter.unusedVariables false
set_option linter.unusedSimpArgs false

def half : Nat := 4602678819172646912
def midT (vs : List Nat) : Nat := quantS half (vs.map fun v => fabs (fsub v (quantS half vs)))

def MidRel (g : Nat → Nat) (n : Nat) (W : World) (vi : Value) (wr : World) : Prop :=
  ∃ (k : Nat) (f : Nat → Nat), k ≤ n ∧ vi = .int .i64 (k : Int) ∧ (∀ i, i < k → cn (f i) = g i) ∧ Bk.Is wr W.heap.size (fillC f n k) 25 ∧ Below W.heap.size W wr

/-- One more value, whatever it is. -/
theorem fill_more {wr : World} {B n k r : Nat} {f : Nat → Nat} (h : Bk.Is wr B (fillC f n k) 25) (hk : k < n) : Bk.Is (wr.setCell ⟨B, k, none⟩ (.float .f64 r)) B (fillC (fun i => if i = k then r else f i) n (k + 1)) 25 := by
  have h1 : fillC f n k = fillC (fun i => if i = k then r else f i) n k := by
    apply Array.ext_getElem?
    intro i
    by_cases hi : i < n
    · rw [fillC_get _ hi, fillC_get _ hi]
      by_cases h2 : i < k
      · rw [if_pos h2, if_pos h2, if_neg (by omega)]
      · rw [if_neg h2, if_neg h2]
    · rw [Array.getElem?_eq_none (by rw [fillC_size]; omega), Array.getElem?_eq_none (by rw [fillC_size]; omega)]
  rw [h1] at h
  have h2 := h.set k (.float .f64 ((fun i => if i = k then r else f i) k))
  rw [fillC_set _ hk] at h2
  simpa using h2

theorem cn_half : cn 4602678819172646912 = half := by decide +kernel

set_option maxHeartbeats 4000000 in
set_option maxRecDepth 100000 in
theorem middle_any (a : Option Addr) (n cap : Nat) (xs : List Nat) (w : World) (hr : Row w a n xs) (hs : SlOk a n cap) (hb : n < 17592186044416) :
    Calls Try.prog 41 #[.slice a n cap] w (FB (midT (xs.map cn)) w) := by
  have HQ1 : Hid (Calls Try.prog 52 #[.float .f64 4602678819172646912, .slice a n cap] w (FB (quantS half (xs.map cn)) w)) := by
    show Calls _ _ _ _ _
    rw [← cn_half]; exact quant_any _ a n cap xs w hr hs hb
  have HQ2 : Hid (∀ B ys w1, Row w1 (some ⟨B, 0, none⟩) n ys → Calls Try.prog 52 #[.float .f64 4602678819172646912, .slice (some ⟨B, 0, none⟩) n n] w1 (FB (quantS half (ys.map cn)) w1)) := fun B ys w1 h => by
    rw [← cn_half]; exact quant_any _ _ n n ys w1 h ⟨Nat.le_refl _, fun h => by cases h⟩ hb
  have HR := Lib.hid hr
  have hl := hr.1
  have HA : Hid (∀ i, i < n → at0 (xs.map cn) i = cn (at0 xs i)) := fun i hi => at0_map cn xs (by omega)
  have HL := Lib.hid hl
  clear hr hs hl
  go_enter Try.func41, Try.ntmps41
  go_wp2_with (first | (go_at_call 52; ((with_reducible refine HQ1.out.mono ?_); rintro e w1 ⟨m, rfl, hm, b1⟩; have HM := Lib.hid hm; have B1 := Lib.hid b1; clear hm b1)) | (at_make; refine wpList_make_f rfl _ _ rfl (fun _ => 0) n rfl rfl (by omega) ?_; intro w2 hI b2; have HI := Lib.hid hI; have B2 := Lib.hid b2; clear hI b2))
  go_loopw [14] (MidRel (fun i => fabs (fsub (cn (at0 xs i)) (cn m))) n w1) (fun vi _ => n - (intOf vi).toNat)
  case atStart => exact ⟨0, fun _ => 0, by omega, rfl, fun i hi => by omega, HI.out, B2.out⟩
  case round =>
    obtain ⟨k, f, hk, rfl, hf, hI, bw⟩ := hrel
    have HFF := Lib.hid hf
    have HIS := Lib.hid hI
    have BW := Lib.hid bw
    clear hf hI bw
    by_cases hkn : k < n
    · have hrw := HR.out.below (B1.out.trans (BW.out.mono B1.out.size))
      obtain ⟨b, off, ha, hcell⟩ := hrw.2.2 (by omega)
      subst ha
      have ck := hcell k hkn
      have cf : wr.cell? ⟨w1.heap.size, k, none⟩ = some (.float .f64 0) := by rw [HIS.out.cell, fillC_get _ hkn, if_neg (by omega)]
      have cfz := HIS.out.free k
      obtain ⟨u, hu⟩ : ∃ v, v = at0 xs k := ⟨_, rfl⟩
      rw [← hu] at ck
      have HU := Lib.hid hu
      clear hcell hrw hu
      go_wp2_with (first | (refine wpList_fop _ _ _ _ _ _ _ rfl rfl rfl ?_; intro r0 n0 hr0; have HR0 := Lib.hid hr0; clear hr0) | (go_at_call 53; ((with_reducible refine (abs_any _ _).mono ?_); rintro e w3 ⟨rfl, rfl⟩)))
      go_roundw
      case rel => 
        refine ⟨k + 1, fun i => if i = k then r0 % top else f i, by omega, by go_num, fun i hi => ?_, fill_more (HIS.out.drewN n0) hkn, below_fill (BW.out.drewN' n0) rfl _⟩
        by_cases h : i = k
        · subst h
          show cn (if i = i then r0 % top else f i) = fabs (fsub (cn (at0 xs i)) (cn m))
          rw [if_pos rfl, cn_abs, HR0.out, HU.out]; rfl
        · show cn (if i = k then r0 % top else f i) = fabs (fsub (cn (at0 xs i)) (cn m))
          rw [if_neg h]; exact HFF.out i (by omega)
      case measure => simp [intOf]; omega
    · obtain rfl : k = n := by omega
      have HRW : Hid (Row wr (some ⟨w1.heap.size, 0, none⟩) k ((List.range k).map f)) := fill_row HIS.out (by simp) (by omega) (fun i hi => by simp [at0, List.getD, hi])
      have HV : Hid (quantS half (((List.range k).map f).map cn) = midT (xs.map cn)) := by
        show _ = _
        unfold midT
        congr 1
        apply List.ext_getElem?
        intro i
        by_cases hi : i < k
        · have e1 := HFF.out i hi
          have hx : i < xs.length := by have := HL.out; omega
          simp [hi, hx, e1, at0, List.getD, HM.out]
        · have hx : ¬ i < xs.length := by have := HL.out; omega
          rw [List.getElem?_eq_none (by simp; omega), List.getElem?_eq_none (by simp; omega)]
      clear HFF
      go_wp2_with (go_at_call 52; ((with_reducible refine (HQ2.out _ _ _ HRW.out).mono ?_); rintro e w3 ⟨r, rfl, hr, b3⟩))
      go_ret
      exact ⟨r, rfl, hr.trans HV.out, B1.out.trans ((BW.out.trans (b3.mono BW.out.size)).mono B1.out.size)⟩
end Go.Proofs.Ytoeldcgclaiokaa
