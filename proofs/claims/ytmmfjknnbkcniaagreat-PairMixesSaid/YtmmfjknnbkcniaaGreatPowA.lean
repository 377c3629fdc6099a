/- Is a number whole, is it odd; a whole power; both sides. -/
import Derived.Test.YtmmfjknnbkcniaaGreatModR
import Derived.Test.YtmmfjknnbkcniaaGreatLogL
namespace Go.Fl
open Ieee
/-- a to the power n, times r: by squares; k: how many squares at most. -/
def powF : Nat → Nat → Nat → Nat → Nat
  | 0, _, _, r => r
  | k + 1, n, a, r => if n = 0 then r else powF k (n / 2) (if 2 ≤ n then fmul a a else a) (if n % 2 = 1 then fmul r a else r)
theorem powF_zero (k a r : Nat) : powF k 0 a r = r := by cases k <;> simp [powF]
/-- The other sign, of classes. -/
def fneg (s : Nat) : Nat := if isN s then nanc else Op.negFloat .f64 s
theorem rung_neg (b : Nat) : rung (Op.negFloat .f64 b) = rung b := by
  unfold rung Op.negFloat
  rw [show 2 ^ (FloatKind.f64.format.exponentBits + FloatKind.f64.format.fractionBits) = 2 ^ 63 from rfl, show (9223372036854775808 : Nat) = 2 ^ 63 by decide]
  apply Nat.eq_of_testBit_eq
  intro i
  rw [Nat.testBit_mod_two_pow, Nat.testBit_mod_two_pow, Nat.testBit_xor, Nat.testBit_two_pow]
  by_cases hi : i < 63
  · simp [show ¬ 63 = i by omega]
  · simp [hi]
theorem cn_neg (b : Nat) : cn (Op.negFloat .f64 b) = fneg (cn b) := by
  unfold fneg
  have h : isN (Op.negFloat .f64 b) = isN b := by rw [isN_iff, isN_iff, rung_neg]
  rw [isN_cn]
  cases hb : isN b
  · rw [cn_of_notN (by rw [h, hb]), cn_of_notN hb]; rfl
  · rw [cn_of_N (by rw [h, hb])]; rfl
end Go.Fl
namespace Go.Proofs.YtmmfjknnbkcniaaGreat
open Go.Fl Go.Rel Go.RowKit
set_option linter.unusedSimpArgs false
set_option linter.unusedVariables false

theorem neg_run (v : Nat) (w : World) : (Op.unary UnOp.neg (.float .f64 v)).run Tryz.prog w = .ok (.float .f64 (Op.negFloat .f64 v)) w := rfl

/-- Is the number finite, without a fraction? -/
def wholeB (x : Nat) : Bool := !isN x && (!finf (cn x) && (ford (ffloor (cn x)) x == some .eq))
def absLt (x c : Nat) : Bool := ford (x % top) c == some .lt
def toI (x : Nat) : Int := (floatToIntVal .f64 x .i64).getD 0
def oddB (x : Nat) : Bool := wholeB x && (absLt x 4845873199050653696 && ((toI x).tmod 2 != 0))
def BRet (b : Bool) (w : World) (e : Ending) (w' : World) : Prop := ∃ n, e = .returned (.bool b) ∧ w' = w.drewN n

theorem absLt_fin {x c : Nat} (hc : c < 9218868437227405312) (h : absLt x c = true) : isF x ∧ rung x < c := by
  unfold absLt at h
  have hm : x % top = rung x := rfl
  rw [hm] at h
  have hlt := rung_lt_sw x
  by_cases hN : isN (rung x) = true
  · rw [ford_nan1 hN] at h; cases h
  · have hN' : isN (rung x) = false := by cases e : isN (rung x) <;> simp_all
    rw [isN_iff, rung_small hlt] at hN'
    have h2 : ¬ 9218868437227405312 < rung x := of_decide_eq_false hN'
    rw [flt_pl (by rw [isN_iff, rung_small hlt]; exact hN') (isF_notN (isF_small hc)), pl_pos (by omega), pl_pos (by omega)] at h
    have := of_decide_eq_true h
    exact ⟨by unfold isF; omega, by omega⟩
theorem toI_some {x c m : Nat} (hc : c < 9218868437227405312) (hm : unitsOf c = m * U) (hm2 : m ≤ 9007199254740992) (hf : isF x) (h : rung x ≤ c) : floatToIntVal .f64 x .i64 = some (toI x) ∧ -(m : Int) ≤ toI x ∧ toI x ≤ (m : Int) := by
  have hu := unitsOf_le h
  rw [hm] at hu
  have hU : (0 : Int) < (U : Int) := by exact_mod_cast U_pos
  have hui : (unitsOf (rung x) : Int) ≤ (m : Int) * (U : Int) := by exact_mod_cast hu
  have hv : (uv x).natAbs = unitsOf (rung x) := by rcases uv_of_sgn (f := x) with e | e <;> rw [e] <;> omega
  have b1 : (-(m : Int)) * (U : Int) ≤ uv x := by
    rw [Int.neg_mul]
    generalize (m : Int) * (U : Int) = g at *
    omega
  have b2 : uv x ≤ (m : Int) * (U : Int) := by
    generalize (m : Int) * (U : Int) = g at *
    omega
  have e := toIntVal_fin hf b1 b2 (by omega) (by omega)
  have et : toI x = (uv x).tdiv (U : Int) := by unfold toI; rw [e]; rfl
  refine ⟨by rw [et]; exact e, ?_, ?_⟩
  · have hb : ((uv x).tdiv (U : Int)).natAbs ≤ m := by
      rw [Int.natAbs_tdiv, Int.natAbs_natCast]
      refine Nat.div_le_of_le_mul ?_
      rw [Nat.mul_comm, hv]; exact hu
    rw [et]; omega
  · have hb : ((uv x).tdiv (U : Int)).natAbs ≤ m := by
      rw [Int.natAbs_tdiv, Int.natAbs_natCast]
      refine Nat.div_le_of_le_mul ?_
      rw [Nat.mul_comm, hv]; exact hu
    rw [et]; omega
theorem units53 : unitsOf 4845873199050653696 = 9007199254740992 * U := by
  have h := (wz_read (z := 9007199254740992) (by decide)).2.1
  rw [show wz 9007199254740992 = 4845873199050653696 by decide +kernel, uv_small (by omega)] at h
  generalize U = g at h ⊢
  omega
theorem units1024 : unitsOf 4652218415073722368 = 1024 * U := by
  have h := (wz_read (z := 1024) (by decide)).2.1
  rw [show wz 1024 = 4652218415073722368 by decide +kernel, uv_small (by omega)] at h
  generalize U = g at h ⊢
  omega


set_option maxRecDepth 100000 in
theorem cwhole2_any (x : Nat) (w : World) : Calls Tryz.prog 71 #[.float .f64 x] w (BRet (wholeB x) w) := by
  unfold wholeB
  cases h1 : isN x
  case true =>
    go_enter Tryz.func71, Tryz.ntmps71
    go_wp2_with (go_at_call 64; refine (isnan_any _ _).mono ?_; rintro e w' ⟨rfl, rfl⟩; rw [h1])
    go_ret
    exact ⟨0, rfl, rfl⟩
  cases h2 : finf (cn x)
  case true =>
    go_enter Tryz.func71, Tryz.ntmps71
    go_wp2_with (first | (go_at_call 64; refine (isnan_any _ _).mono ?_; rintro e w' ⟨rfl, rfl⟩; rw [h1]) | (go_at_call 66; refine (infinite_any _ _).mono ?_; rintro e w' ⟨rfl, rfl⟩; rw [h2]))
    go_ret
    exact ⟨0, rfl, rfl⟩
  obtain ⟨B, hB⟩ : ∃ B, (ford (ffloor (cn x)) x == some .eq) = B := ⟨_, rfl⟩
  rw [hB]
  have HB := Lib.hid hB
  clear hB
  go_enter Tryz.func71, Tryz.ntmps71
  go_wp2_with (first | (go_at_call 64; refine (isnan_any _ _).mono ?_; rintro e w' ⟨rfl, rfl⟩; rw [h1]) | (go_at_call 66; refine (infinite_any _ _).mono ?_; rintro e w' ⟨rfl, rfl⟩; rw [h2]) | (go_at_call 96; refine (floor_any _ _).mono ?_; rintro e w' ⟨r, n, rfl, hr, rfl⟩; have hq : (FloatKind.f64.format.order r x == some .eq) = B := (by rw [← HB.out, ← hr, ford_cn1]; rfl); clear hr))
  go_ret
  exact ⟨n, rfl, rfl⟩

set_option maxRecDepth 100000 in
theorem codd_any (x : Nat) (w : World) : Calls Tryz.prog 75 #[.float .f64 x] w (BRet (oddB x) w) := by
  unfold oddB
  cases h1 : wholeB x
  case false =>
    go_enter Tryz.func75, Tryz.ntmps75
    go_wp2_with (go_at_call 71; refine (cwhole2_any _ _).mono ?_; rintro e w' ⟨n, rfl, rfl⟩; rw [h1])
    go_ret
    exact ⟨_, rfl, rfl⟩
  have hl : (FloatKind.f64.format.order (x % top) 4845873199050653696 == some .lt) = absLt x 4845873199050653696 := rfl
  cases h2 : absLt x 4845873199050653696
  case false =>
    rw [h2] at hl
    go_enter Tryz.func75, Tryz.ntmps75
    go_wp2_with (first | (go_at_call 71; refine (cwhole2_any _ _).mono ?_; rintro e w' ⟨n, rfl, rfl⟩; rw [h1]) | (go_at_call 68; refine (abs_any _ _).mono ?_; rintro e w' ⟨rfl, rfl⟩))
    go_ret
    exact ⟨_, rfl, rfl⟩
  rw [h2] at hl
  obtain ⟨hf, hr⟩ := absLt_fin (by decide) h2
  obtain ⟨hc, b1, b2⟩ := toI_some (m := 9007199254740992) (by decide) units53 (by omega) hf (Nat.le_of_lt hr)
  obtain ⟨z, hz⟩ : ∃ z, z = toI x := ⟨_, rfl⟩
  rw [← hz] at hc b1 b2 ⊢
  have b3 : -9007199254740992 ≤ z := b1
  have b4 : z ≤ 9007199254740992 := b2
  have hcv := fun w' => run_convert_float_int (P := Tryz.prog) w' 23 2 .f64 .i64 x _ (by kernel_rfl) Tryz.underlying2 hc
  clear hf hr hz h2 b1 b2
  go_enter Tryz.func75, Tryz.ntmps75
  go_wp2_with (first | (go_at_call 71; refine (cwhole2_any _ _).mono ?_; rintro e w' ⟨n, rfl, rfl⟩; rw [h1]) | (go_at_call 68; refine (abs_any _ _).mono ?_; rintro e w' ⟨rfl, rfl⟩) | simp only [hcv])
  go_ret
  exact ⟨_, rfl, rfl⟩


set_option maxRecDepth 100000 in
theorem rwhole2_any (x : Nat) (w : World) : Calls Tryz.prog 86 #[.float .f64 x] w (BRet (wholeB x) w) := by
  unfold wholeB
  cases h1 : isN x
  case true =>
    go_enter Tryz.func86, Tryz.ntmps86
    go_wp2_with (go_at_call 79; refine (bad_any _ _).mono ?_; rintro e w' ⟨rfl, rfl⟩; rw [h1])
    go_ret
    exact ⟨0, rfl, rfl⟩
  cases h2 : finf (cn x)
  case true =>
    go_enter Tryz.func86, Tryz.ntmps86
    go_wp2_with (first | (go_at_call 79; refine (bad_any _ _).mono ?_; rintro e w' ⟨rfl, rfl⟩; rw [h1]) | (go_at_call 80; refine (endless_any _ _).mono ?_; rintro e w' ⟨rfl, rfl⟩; rw [h2]))
    go_ret
    exact ⟨0, rfl, rfl⟩
  obtain ⟨B, hB⟩ : ∃ B, (ford (ffloor (cn x)) x == some .eq) = B := ⟨_, rfl⟩
  rw [hB]
  have HB := Lib.hid hB
  clear hB
  go_enter Tryz.func86, Tryz.ntmps86
  go_wp2_with (first | (go_at_call 79; refine (bad_any _ _).mono ?_; rintro e w' ⟨rfl, rfl⟩; rw [h1]) | (go_at_call 80; refine (endless_any _ _).mono ?_; rintro e w' ⟨rfl, rfl⟩; rw [h2]) | (go_at_call 96; refine (floor_any _ _).mono ?_; rintro e w' ⟨r, n, rfl, hr, rfl⟩; have hq : (FloatKind.f64.format.order r x == some .eq) = B := (by rw [← HB.out, ← hr, ford_cn1]; rfl); clear hr))
  go_ret
  exact ⟨n, rfl, rfl⟩

set_option maxRecDepth 100000 in
theorem rodd_any (x : Nat) (w : World) : Calls Tryz.prog 89 #[.float .f64 x] w (BRet (oddB x) w) := by
  unfold oddB
  cases h1 : wholeB x
  case false =>
    go_enter Tryz.func89, Tryz.ntmps89
    go_wp2_with (go_at_call 86; refine (rwhole2_any _ _).mono ?_; rintro e w' ⟨n, rfl, rfl⟩; rw [h1])
    go_ret
    exact ⟨_, rfl, rfl⟩
  have hl : (FloatKind.f64.format.order (x % top) 4845873199050653696 == some .lt) = absLt x 4845873199050653696 := rfl
  cases h2 : absLt x 4845873199050653696
  case false =>
    rw [h2] at hl
    go_enter Tryz.func89, Tryz.ntmps89
    go_wp2_with (first | (go_at_call 86; refine (rwhole2_any _ _).mono ?_; rintro e w' ⟨n, rfl, rfl⟩; rw [h1]) | (go_at_call 68; refine (abs_any _ _).mono ?_; rintro e w' ⟨rfl, rfl⟩))
    go_ret
    exact ⟨_, rfl, rfl⟩
  rw [h2] at hl
  obtain ⟨hf, hr⟩ := absLt_fin (by decide) h2
  obtain ⟨hc, b1, b2⟩ := toI_some (m := 9007199254740992) (by decide) units53 (by omega) hf (Nat.le_of_lt hr)
  obtain ⟨z, hz⟩ : ∃ z, z = toI x := ⟨_, rfl⟩
  rw [← hz] at hc b1 b2 ⊢
  have b3 : -9007199254740992 ≤ z := b1
  have b4 : z ≤ 9007199254740992 := b2
  have hcv := fun w' => run_convert_float_int (P := Tryz.prog) w' 23 2 .f64 .i64 x _ (by kernel_rfl) Tryz.underlying2 hc
  clear hf hr hz h2 b1 b2
  go_enter Tryz.func89, Tryz.ntmps89
  go_wp2_with (first | (go_at_call 86; refine (rwhole2_any _ _).mono ?_; rintro e w' ⟨n, rfl, rfl⟩; rw [h1]) | (go_at_call 68; refine (abs_any _ _).mono ?_; rintro e w' ⟨rfl, rfl⟩) | simp only [hcv])
  go_ret
  exact ⟨_, rfl, rfl⟩


end Go.Proofs.YtmmfjknnbkcniaaGreat
