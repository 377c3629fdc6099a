/- Frexp, Ldexp, Copysign: the places of a number above zero. -/
import Derived.Test.YtmmfjknnbkcniaaGreatExpW
import Derived.Test.YtmmfjknnbkcniaaGreatFlMod
namespace Go.Fl
open Ieee

theorem fmul_pow2' {E low J : Nat} (hl : low < 4503599627370496) (h1 : 1 ≤ E) (h2 : E ≤ 2046) (j1 : 1 ≤ J) (j2 : J ≤ 2046) :
    fmul (J * 4503599627370496) (E * 4503599627370496 + low) = scW (4503599627370496 + low) ((E : Int) + (J : Int) - 1023) := by
  have h := fmul_pow2 hl h1 h2 j1 j2
  have a : isF (E * 4503599627370496 + low) := isF_small (by omega)
  have b : isF (J * 4503599627370496) := isF_small (by omega)
  rw [mul_fin a b] at h
  rw [mul_fin b a, Nat.mul_comm (unitsOf _), Bool.xor_comm]
  exact h

theorem fx_bound {u low L k : Nat} (h : FX u low L) (hr : Rp (u * 2 ^ k)) : L + k < 2098 := by
  have h1 := rp_lt hr
  have h2 : 2 ^ L ≤ u := by
    refine Nat.le_of_mul_le_mul_right (c := 4503599627370496) ?_ (by omega)
    rw [h.2, Nat.mul_comm]
    exact Nat.mul_le_mul_right _ (by omega)
  have h3 : 2 ^ L * 2 ^ k ≤ u * 2 ^ k := Nat.mul_le_mul_right _ h2
  rw [← Nat.pow_add] at h3
  have h4 := (Nat.pow_lt_pow_iff_right (a := 2) (by omega)).1 (Nat.lt_of_le_of_lt h3 h1)
  rwa [TopE_eq] at h4

end Go.Fl
namespace Go.Proofs.YtmmfjknnbkcniaaGreat
open Go.Fl Go.Rel Go.RowKit
set_option linter.unusedSimpArgs false
set_option linter.unusedVariables false

theorem nat_low (S : Nat) (hS : S < 9223372036854775808) : S &&& 9227875636482146303 = S % 4503599627370496 := by
  rw [show (9227875636482146303 : Nat) = 2 ^ 63 * 1 + (2 ^ 52 - 1) by decide, show (4503599627370496 : Nat) = 2 ^ 52 by decide]
  apply Nat.eq_of_testBit_eq
  intro i
  rw [Nat.testBit_and, Nat.testBit_two_pow_mul_add 1 (by decide : 2 ^ 52 - 1 < 2 ^ 63), Nat.testBit_mod_two_pow, Nat.testBit_two_pow_sub_one]
  by_cases hi : i < 63
  · rw [if_pos hi, Bool.and_comm]
  · have h0 : S.testBit i = false := Nat.testBit_lt_two_pow (Nat.lt_of_lt_of_le (show S < 2 ^ 63 from hS) (Nat.pow_le_pow_right (by omega) (by omega)))
    rw [h0]; simp

theorem andNot_exp (S E low : Nat) (hS : S = E * 4503599627370496 + low) (hl : low < 4503599627370496) (hE : E ≤ 2046) : bits .andNot .u64 (S : Int) 9218868437227405312 = (low : Int) := by
  have := u64_andNot_nat S 9218868437227405312 (by omega) (by omega)
  rw [show 18446744073709551615 - 9218868437227405312 = 9227875636482146303 by decide, nat_low S (by omega), hS, show (E * 4503599627370496 + low) % 4503599627370496 = low by omega] at this
  rw [hS]
  exact this
theorem or_1022 (low : Nat) (hl : low < 4503599627370496) : bits .or .u64 (low : Int) 4602678819172646912 = ((1022 * 4503599627370496 + low : Nat) : Int) := by
  have := u64_or_nat low 4602678819172646912 (by omega) (by omega)
  rw [Nat.or_comm, nat_join 52 4602678819172646912 low (by decide) (by omega)] at this
  exact this
theorem or_low2 (F low : Nat) (hl : low < 4503599627370496) (hF : F ≤ 2046) : bits .or .u64 (low : Int) ((F : Int) * 4503599627370496) = ((F * 4503599627370496 + low : Nat) : Int) := by
  have := u64_or_nat low (F * 4503599627370496) (by omega) (by omega)
  rw [Nat.or_comm, nat_join 52 (F * 4503599627370496) low (by omega) (by omega)] at this
  rw [Int.natCast_mul] at this
  exact this
theorem and_i64 (E : Nat) (hE : E ≤ 2046) : bits .and .i64 (E : Int) 2047 = (E : Int) := by
  show IntKind.i64.wrap ((BitVec.ofInt 64 (E : Int) &&& BitVec.ofInt 64 ((2047 : Nat) : Int)).toNat : Int) = _
  rw [BitVec.toNat_and, ofInt_u64 E (by omega), ofInt_u64 2047 (by omega), nat_mask11, Nat.mod_eq_of_lt (by omega)]
  simp [IntKind.wrap, IntKind.bits, IntKind.signed]
  omega

/-- A number made normal. -/
def NormR (r : Nat) (w : World) (e : Ending) (w' : World) : Prop :=
  ∃ (E low L : Nat) (c : Int) (n : Nat), e = .returned (.tuple #[.float .f64 (E * 4503599627370496 + low : Nat), .int .i64 c]) ∧ FX (unitsOf r) low L ∧ 1 ≤ E ∧ E ≤ 2046 ∧ (L : Int) = (E : Int) + 51 + c ∧ -52 ≤ c ∧ c ≤ 0 ∧ w' = w.drewN n

set_option maxRecDepth 100000 in
theorem norm_any (r : Nat) (w : World) (h0 : 0 < r) (hr : r < 9218868437227405312) : Calls Tryz.prog 129 #[.float .f64 r] w (NormR r w) := by
  have htop : r % top = r := Nat.mod_eq_of_lt (by unfold top; omega)
  by_cases hs : r < 4503599627370496
  · have hlt : (FloatKind.f64.format.order r 4503599627370496 == some .lt) = true := by rw [show (FloatKind.f64.format.order r 4503599627370496 == some .lt) = decide (r < 4503599627370496) from flt_small (by omega) (by omega)]; exact decide_eq_true hs
    obtain ⟨E, low, hm, hl, hE1, hE2, hu⟩ := sub_scale52 h0 hs
    have HM := Lib.hid hm
    have HU := Lib.hid hu
    have HL := Lib.hid hl
    have HC : Hid (cn r = r) := Lib.hid (cn_small hr)
    clear hm hu hl hs h0 hr
    go_enter Tryz.func129, Tryz.ntmps129
    go_wp2_with (first | (go_at_call 68; refine (abs_any _ _).mono ?_; rintro e w' ⟨rfl, rfl⟩; rw [htop]) | (refine wpList_fop .mul _ _ _ _ r 4841369599423283200 rfl rfl rfl ?_; intro ry ny hry; have HY := Lib.hid hry; clear hry))
    go_ret2
    have hl := HL.out
    have hy : ry = E * 4503599627370496 + low := by
      refine eq_of_cn (c := E * 4503599627370496 + low) ?_ (isF_notN (isF_small (by omega)))
      rw [HY.out, HC.out, show cn 4841369599423283200 = 4841369599423283200 by decide +kernel]
      exact HM.out
    exact ⟨E, low, E - 1, -52, _, by rw [hy]; rfl, fx_sub hE1 hl HU.out, hE1, by omega, by omega, by omega, by omega, by first | rfl | (simp only [World.drewN_drewN]; rfl)⟩
  · have hlt : (FloatKind.f64.format.order r 4503599627370496 == some .lt) = false := by rw [show (FloatKind.f64.format.order r 4503599627370496 == some .lt) = decide (r < 4503599627370496) from flt_small (by omega) (by omega)]; exact decide_eq_false hs
    have HR := Lib.hid hr
    have HS := Lib.hid hs
    clear hr hs h0
    go_enter Tryz.func129, Tryz.ntmps129
    go_wp2_with (first | (go_at_call 68; refine (abs_any _ _).mono ?_; rintro e w' ⟨rfl, rfl⟩; rw [htop]))
    go_ret2
    have hr := HR.out
    have hs := HS.out
    refine ⟨r / 4503599627370496, r % 4503599627370496, r / 4503599627370496 + 51, 0, 0, ?_, fx_norm (by omega) (by omega) (by omega), by omega, by omega, by omega, by omega, by omega, rfl⟩
    rw [show r / 4503599627370496 * 4503599627370496 + r % 4503599627370496 = r by omega]; rfl

/-- The fraction and the place of a number above zero. -/
def FrexpR (r : Nat) (w : World) (e : Ending) (w' : World) : Prop :=
  ∃ (low L n : Nat), e = .returned (.tuple #[.float .f64 (1022 * 4503599627370496 + low : Nat), .int .i64 ((L : Int) - 1073)]) ∧ FX (unitsOf r) low L ∧ L ≤ 2097 ∧ w' = w.drewN n

theorem finf_small {r : Nat} (hr : r < 9218868437227405312) : finf (cn r) = false := by
  rw [cn_small hr]
  unfold finf fabs
  rw [show isN r = false from isF_notN (isF_small hr)]
  simp only [Bool.false_eq_true, if_false]
  rw [show r % top = r from Nat.mod_eq_of_lt (by unfold top; omega), ford_small (by omega) (by omega)]
  have : compare (r : Int) ((9218868437227405311 : Nat) : Int) ≠ .gt := by
    rw [ne_eq, Std.compare_eq_gt]; omega
  revert this
  generalize compare (r : Int) ((9218868437227405311 : Nat) : Int) = o
  cases o <;> simp
theorem feq_zero {r : Nat} (h0 : 0 < r) (hr : r < 9218868437227405312) : (FloatKind.f64.format.order r 0 == some .eq) = false := by
  rw [show FloatKind.f64.format.order r 0 = some (compare (r : Int) ((0 : Nat) : Int)) from ford_small (by omega) (by omega)]
  have : compare (r : Int) ((0 : Nat) : Int) ≠ .eq := by
    rw [ne_eq, Std.compare_eq_iff_eq]; omega
  revert this
  generalize compare (r : Int) ((0 : Nat) : Int) = o
  cases o <;> simp

set_option maxRecDepth 100000 in
theorem frexp_in (r : Nat) (w : World) (h0 : 0 < r) (hr : r < 9218868437227405312) : Calls Tryz.prog 125 #[.float .f64 r] w (FrexpR r w) := by
  have hz := feq_zero h0 hr
  have hi := finf_small hr
  have hn : isN r = false := isF_notN (isF_small hr)
  have H0 := Lib.hid h0
  have HR := Lib.hid hr
  clear h0 hr
  go_enter Tryz.func125, Tryz.ntmps125
  go_wp2_with (first | (go_at_call 94; refine (isinf_any _ _).mono ?_; rintro e w' ⟨rfl, rfl⟩; rw [hi]) | (go_at_call 64; refine (isnan_any _ _).mono ?_; rintro e w' ⟨rfl, rfl⟩; rw [hn]))
  go_at_call 129
  refine (norm_any _ _ H0.out HR.out).mono ?_
  rintro e w' ⟨E, low, L, c, n, rfl, hfx, hE1, hE2, hL, hc1, hc2, rfl⟩
  obtain ⟨S, hS⟩ : ∃ S, S = E * 4503599627370496 + low := ⟨_, rfl⟩
  rw [← hS]
  have hl := hfx.1
  have hb1 := and_2047 S E low hS hl hE2
  have hb2 := andNot_exp S E low hS hl hE2
  have hb3 := or_1022 low hl
  have hby := bits_run S
  have hf0 := frombits_run ((1022 * 4503599627370496 + low : Nat) : Int)
  rw [Int.toNat_natCast] at hf0
  obtain ⟨T, hT⟩ : ∃ T, T = 1022 * 4503599627370496 + low := ⟨_, rfl⟩
  rw [← hT] at hb3 hf0
  have e1 : (1 : Int) ≤ (E : Int) := by omega
  have e2 : (E : Int) ≤ 2046 := by omega
  have HFX := Lib.hid hfx
  have HT := Lib.hid hT
  have HLL := Lib.hid hL
  clear hS hl hE1 hE2 hfx hT hL
  go_wp2_with (first | simp only [hby] | simp only [hf0])
  go_ret2
  refine ⟨low, L, _, ?_, HFX.out, by have := HLL.out; omega, rfl⟩
  rw [← HT.out, show c + ((E : Int) - 1023 + 1) = (L : Int) - 1073 by have := HLL.out; omega]; rfl

theorem frexp_any (r : Nat) (w : World) (h0 : 0 < r) (hr : r < 9218868437227405312) : Calls Tryz.prog 117 #[.float .f64 r] w (FrexpR r w) := by
  have H0 := Lib.hid h0
  have HR := Lib.hid hr
  clear h0 hr
  go_enter Tryz.func117, Tryz.ntmps117
  go_wp2_with (go_at_call 125; refine (frexp_in _ _ H0.out HR.out).mono ?_; rintro e w' ⟨low, L, n, rfl, hfx, hL, rfl⟩; have HFX := Lib.hid hfx; clear hfx)
  go_ret2
  exact ⟨low, L, n, rfl, HFX.out, hL, rfl⟩

theorem frexp_inf0 (w : World) : Calls Tryz.prog 125 #[.float .f64 pinf] w fun e w' => e = .returned (.tuple #[.float .f64 pinf, .int .i64 0]) ∧ w = w' := by
  have hz : (FloatKind.f64.format.order pinf 0 == some .eq) = false := by decide +kernel
  have hi : finf (cn pinf) = true := by decide +kernel
  go_enter Tryz.func125, Tryz.ntmps125
  go_wp2_with (first | (go_at_call 94; refine (isinf_any _ _).mono ?_; rintro e w' ⟨rfl, rfl⟩; rw [hi]))
  go_ret2
  exact ⟨rfl, rfl⟩
theorem frexp_inf (w : World) : Calls Tryz.prog 117 #[.float .f64 pinf] w fun e w' => e = .returned (.tuple #[.float .f64 pinf, .int .i64 0]) ∧ w = w' := by
  go_enter Tryz.func117, Tryz.ntmps117
  go_wp2_with (go_at_call 125; refine (frexp_inf0 _).mono ?_; rintro e w' ⟨rfl, rfl⟩)
  go_ret2
  exact ⟨rfl, rfl⟩

/-- A number above zero times a power of two, exactly. -/
def LdexpR (s : Nat) (w : World) (e : Ending) (w' : World) : Prop := ∃ n, e = .returned (.float .f64 s) ∧ w' = w.drewN n

set_option maxHeartbeats 4000000 in
set_option maxRecDepth 100000 in
theorem ldexp_in (r s k : Nat) (w : World) (h0 : 0 < r) (hr : r < 9218868437227405312) (hs : s < 9218868437227405312) (hu : unitsOf s = unitsOf r * 2 ^ k) :
    Calls Tryz.prog 127 #[.float .f64 r, .int .i64 (k : Int)] w (LdexpR s w) := by
  have hz := feq_zero h0 hr
  have hi := finf_small hr
  have hn : isN r = false := isF_notN (isF_small hr)
  have H0 := Lib.hid h0
  have HR := Lib.hid hr
  have HS := Lib.hid hs
  have HU := Lib.hid hu
  clear h0 hr hs hu
  go_enter Tryz.func127, Tryz.ntmps127
  go_wp2_with (first | (go_at_call 94; refine (isinf_any _ _).mono ?_; rintro e w' ⟨rfl, rfl⟩; rw [hi]) | (go_at_call 64; refine (isnan_any _ _).mono ?_; rintro e w' ⟨rfl, rfl⟩; rw [hn]))
  go_at_call 129
  refine (norm_any _ _ H0.out HR.out).mono ?_
  rintro e w' ⟨E, low, L, c, n, rfl, hfx, hE1, hE2, hL, hc1, hc2, rfl⟩
  obtain ⟨S, hS⟩ : ∃ S, S = E * 4503599627370496 + low := ⟨_, rfl⟩
  rw [← hS]
  have hLk : L + k < 2098 := fx_bound hfx ⟨s, HS.out, HU.out⟩
  have hld : scW (4503599627370496 + low) ((L : Int) + (k : Int) - 51) = s := ld_units hfx HS.out HU.out
  have hl := hfx.1
  have hb1 := and_i64 E hE2
  have hb0 : (S : Int) / 4503599627370496 = (E : Int) := by omega
  have hb2 := andNot_exp S E low hS hl hE2
  have hby := bits_run S
  obtain ⟨k1, hk1⟩ : ∃ k1, (k : Int) + c = k1 := ⟨_, rfl⟩
  obtain ⟨f, hf⟩ : ∃ f, k1 + ((E : Int) - 1023) = f := ⟨_, rfl⟩
  have d1 : decide (f < -1075) = false := decide_eq_false (by omega)
  have d2 : decide (1023 < f) = false := decide_eq_false (by omega)
  have ka : (k : Int) < 2098 := by omega
  have kb : (0 : Int) ≤ (k : Int) := by omega
  have e1 : (1 : Int) ≤ (E : Int) := by omega
  have e2 : (E : Int) ≤ 2046 := by omega
  have k1a : k1 ≤ 2098 := by omega
  have k1b : -52 ≤ k1 := by omega
  by_cases hsub : f < -1022
  · have d3 : decide (f < -1022) = true := decide_eq_true hsub
    obtain ⟨F, hF⟩ : ∃ F : Nat, f + 53 + 1023 = (F : Int) := ⟨(f + 53 + 1023).toNat, by omega⟩
    have F1 : 1 ≤ F := by omega
    have F2 : F ≤ 2046 := by omega
    have hb3 := or_low2 F low hl F2
    have hmul : fmul (970 * 4503599627370496) (F * 4503599627370496 + low) = s := by
      rw [fmul_pow2' hl F1 F2 (by omega) (by omega), ← hld]
      congr 1
      omega
    obtain ⟨T, hT⟩ : ∃ T, T = F * 4503599627370496 + low := ⟨_, rfl⟩
    have hTn := cn_small (x := T) (by omega)
    rw [← hT] at hb3 hmul
    have hf0 := frombits_run (T : Int)
    rw [Int.toNat_natCast] at hf0
    have HM := Lib.hid hmul
    have HTN := Lib.hid hTn
    have F3 : (1 : Int) ≤ (F : Int) := by omega
    have F4 : (F : Int) ≤ 2046 := by omega
    have f5 : -1075 ≤ f := by omega
    have f6 : f < -1022 := hsub
    clear hS hl hE1 hE2 hfx hT hL hsub hld hLk hmul hTn F1 F2
    go_wp2_with (first | simp only [hby] | simp only [hf0] | (refine wpList_fop .mul _ _ _ _ 4368491638549381120 T rfl rfl rfl ?_; intro ry ny hry; have HY := Lib.hid hry; clear hry))
    go_ret
    have hy : ry = s := eq_of_cn (c := s) (by rw [HY.out, HTN.out, show cn 4368491638549381120 = 970 * 4503599627370496 by decide +kernel]; exact HM.out) (isF_notN (isF_small HS.out))
    exact ⟨_, by rw [hy]; rfl, by first | rfl | (simp only [World.drewN_drewN]; rfl)⟩
  · have d3 : decide (f < -1022) = false := decide_eq_false hsub
    obtain ⟨F, hF⟩ : ∃ F : Nat, f + 1023 = (F : Int) := ⟨(f + 1023).toNat, by omega⟩
    have F1 : 1 ≤ F := by omega
    have F2 : F ≤ 2046 := by omega
    have hb3 := or_low2 F low hl F2
    have hmul : fmul (1023 * 4503599627370496) (F * 4503599627370496 + low) = s := by
      rw [fmul_pow2' hl F1 F2 (by omega) (by omega), ← hld]
      congr 1
      omega
    obtain ⟨T, hT⟩ : ∃ T, T = F * 4503599627370496 + low := ⟨_, rfl⟩
    have hTn := cn_small (x := T) (by omega)
    rw [← hT] at hb3 hmul
    have hf0 := frombits_run (T : Int)
    rw [Int.toNat_natCast] at hf0
    have HM := Lib.hid hmul
    have HTN := Lib.hid hTn
    have F3 : (1 : Int) ≤ (F : Int) := by omega
    have F4 : (F : Int) ≤ 2046 := by omega
    have f5 : -1022 ≤ f := by omega
    have f6 : f ≤ 1023 := by omega
    clear hS hl hE1 hE2 hfx hT hL hsub hld hLk hmul hTn F1 F2
    go_wp2_with (first | simp only [hby] | simp only [hf0] | (refine wpList_fop .mul _ _ _ _ 4607182418800017408 T rfl rfl rfl ?_; intro ry ny hry; have HY := Lib.hid hry; clear hry))
    go_ret
    have hy : ry = s := eq_of_cn (c := s) (by rw [HY.out, HTN.out, show cn 4607182418800017408 = 1023 * 4503599627370496 by decide +kernel]; exact HM.out) (isF_notN (isF_small HS.out))
    exact ⟨_, by rw [hy]; rfl, by first | rfl | (simp only [World.drewN_drewN]; rfl)⟩

theorem ldexp_any (r s k : Nat) (w : World) (h0 : 0 < r) (hr : r < 9218868437227405312) (hs : s < 9218868437227405312) (hu : unitsOf s = unitsOf r * 2 ^ k) :
    Calls Tryz.prog 118 #[.float .f64 r, .int .i64 (k : Int)] w (LdexpR s w) := by
  have H := Lib.hid (fun w => ldexp_in r s k w h0 hr hs hu)
  clear h0 hr hs hu
  go_enter Tryz.func118, Tryz.ntmps118
  go_wp2_with (go_at_call 127; refine (H.out _).mono ?_; rintro e w' ⟨n, rfl, rfl⟩)
  go_ret
  exact ⟨n, rfl, rfl⟩

/-- The size of one number, the sign of another. -/
theorem copysign_any (v x : Nat) (w : World) (hv : v < 9223372036854775808) (hx : x < 18446744073709551616) :
    Calls Tryz.prog 8 #[.float .f64 v, .float .f64 x] w fun e w' => e = .returned (.float .f64 (Ieee.double.word (sgn x) v)) ∧ w = w' := by
  have hb1 : bits .andNot .u64 (v : Int) 9223372036854775808 = (v : Int) := by
    have := u64_andNot_nat v 9223372036854775808 (by omega) (by omega)
    rw [show v &&& (18446744073709551615 - 9223372036854775808) = v % 9223372036854775808 from Nat.and_two_pow_sub_one_eq_mod v 63, Nat.mod_eq_of_lt hv] at this
    exact this
  have hb2 : bits .and .u64 (x : Int) 9223372036854775808 = ((x / 9223372036854775808 % 2 * 9223372036854775808 : Nat) : Int) := by
    have := u64_and_nat x 9223372036854775808 (by omega) (by omega)
    rw [show x &&& 9223372036854775808 = x / 9223372036854775808 % 2 * 9223372036854775808 from nat_bit 63 x] at this
    exact this
  obtain ⟨B, hB⟩ : ∃ B, B = x / 9223372036854775808 % 2 * 9223372036854775808 := ⟨_, rfl⟩
  rw [← hB] at hb2
  have hB2 : B = 0 ∨ B = 9223372036854775808 := by omega
  have hb3 : bits .or .u64 (v : Int) (B : Int) = ((B + v : Nat) : Int) := by
    have := u64_or_nat v B (by omega) (by omega)
    rw [Nat.or_comm, nat_join 63 B v (by omega) (by omega)] at this
    exact this
  have hw : Ieee.double.word (sgn x) v = B + v := by
    rw [word_eq, hB]
    unfold sgn
    by_cases h : x / 9223372036854775808 % 2 = 1
    · rw [h]; simp
    · rw [show x / 9223372036854775808 % 2 = 0 by omega]; simp
  rw [hw]
  have hby1 := bits_run v
  have hby2 := bits_run x
  have hf0 := frombits_run ((B + v : Nat) : Int)
  rw [Int.toNat_natCast] at hf0
  obtain ⟨T, hT⟩ : ∃ T, T = B + v := ⟨_, rfl⟩
  rw [← hT] at hb3 hf0 ⊢
  clear hw hB hB2 hT hv hx
  go_enter Tryz.func8, Tryz.ntmps8
  go_wp2_with (first | simp only [hby1] | simp only [hby2] | simp only [hf0])
  go_ret
  exact ⟨rfl, rfl⟩

end Go.Proofs.YtmmfjknnbkcniaaGreat
