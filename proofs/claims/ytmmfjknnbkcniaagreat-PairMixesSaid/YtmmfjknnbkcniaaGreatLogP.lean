/- weirref06.Parts and series. -/
import Derived.Test.YtmmfjknnbkcniaaGreatLogA
namespace Go.Proofs.YtmmfjknnbkcniaaGreat
open Go.Fl Go.Rel Go.RowKit
set_option linter.unusedSimpArgs false
set_option linter.unusedVariables false

def fbits (v : Value) : Nat := match v with | .float _ b => b | _ => 0

theorem c_bound {x y c : Nat} (h0 : 0 < x) (hy : y < dbl cHalf) (h : unitsOf y = unitsOf x * 2 ^ c) : c < 1075 := by
  have u1 := unitsOf_lt hy
  have u0 := unitsOf_pos.2 h0
  have hd : dbl cHalf < 1024 * 4503599627370496 := by decide
  obtain ⟨J, hJ⟩ : ∃ J : Nat, J = 1024 := ⟨_, rfl⟩
  have u2 := unitsOf_lt hd
  have u3 := units_norm (E := J) (low := 0) (by omega) (by omega)
  rw [Nat.add_zero, Nat.add_zero] at u3
  have hJ2 : 1024 * 4503599627370496 = J * 4503599627370496 := by rw [hJ]
  rw [hJ2, u3] at u2
  have hp : 4503599627370496 * 2 ^ (J - 1) = 2 ^ 52 * 2 ^ (J - 1) := by
    have : (2 : Nat) ^ 52 = 4503599627370496 := by decide
    rw [this]
  rw [hp, ← Nat.pow_add] at u2
  have h2 : 2 ^ c < 2 ^ (52 + (J - 1)) := by
    have : 1 * 2 ^ c ≤ unitsOf x * 2 ^ c := Nat.mul_le_mul_right _ u0
    rw [Nat.one_mul, ← h] at this
    exact Nat.lt_of_le_of_lt this (Nat.lt_trans u1 u2)
  have := (Nat.pow_lt_pow_iff_right (by omega)).1 h2
  clear u1 u2 u3 h h2 hp hJ2 u0 hd hy
  omega

/-- A significand, its place. -/
def RPartsR (x : Nat) (w : World) (e : Ending) (w' : World) : Prop :=
  ∃ (m : Nat) (k : Int) (n : Nat), LP x m k ∧ -1100 ≤ k ∧ k ≤ 2100 ∧ e = .returned (.tuple #[.float .f64 m, .int .i64 k]) ∧ m < 9218868437227405312 ∧ w' = w.drewN n

def PUp (x : Nat) (w : World) (v0 v4 : Value) (wr : World) : Prop :=
  ∃ y c m : Nat, v0 = .float .f64 y ∧ v4 = .int .i64 (-(c : Int)) ∧ wr = w.drewN m ∧ 0 < y ∧ y < 9218868437227405312 ∧ unitsOf y = unitsOf x * 2 ^ c ∧ (c = 0 ∨ y < dbl cHalf)
def PDown (x : Nat) (w : World) (v0 v4 : Value) (wr : World) : Prop :=
  ∃ y c d m : Nat, v0 = .float .f64 y ∧ v4 = .int .i64 ((d : Int) - (c : Int)) ∧ wr = w.drewN m ∧ cHalf ≤ y ∧ y + d * 4503599627370496 < 9218868437227405312 ∧ unitsOf y * 2 ^ d = unitsOf x * 2 ^ c ∧ c < 1075

theorem dbl_lt {y : Nat} (h0 : 0 < y) (h : y < cHalf) : y < dbl y ∧ dbl y < dbl cHalf := by
  have : cHalf = 4604544271217802189 := rfl
  have e : dbl cHalf = 4609047870845172685 := by decide
  rw [e]
  unfold dbl
  split <;> omega

set_option maxHeartbeats 4000000 in
set_option maxRecDepth 100000 in
theorem rparts_any (x : Nat) (w : World) (h0 : 0 < x) (hx : x < 9218868437227405312) : Calls Tryz.prog 114 #[.float .f64 x] w (RPartsR x w) := by
  have HTH : Hid (fmul (cn 4611686018427387904) (cn hB) = 4609047870845172685) := Lib.hid (by decide +kernel)
  have H0 := Lib.hid h0
  have HX := Lib.hid hx
  have hhb : hB = cHalf := rfl
  have HHB := Lib.hid hhb
  clear h0 hx hhb
  go_enter Tryz.func114, Tryz.ntmps114
  go_wp2_with fail
  go_loopw [0, 4] (PUp x w) (fun v _ _ => 4604544271217802189 - fbits v)
  case atStart => exact ⟨x, 0, 0, rfl, rfl, rfl, H0.out, HX.out, by rw [Nat.pow_zero, Nat.mul_one], .inl rfl⟩
  case round =>
    obtain ⟨y, c, m, rfl, rfl, rfl, hy0, hy1, hu, hc⟩ := hrel
    have HU := Lib.hid hu
    have HC := Lib.hid hc
    have HY0 := Lib.hid hy0
    have HY1 := Lib.hid hy1
    clear hu hc
    by_cases hlt : y < cHalf
    · have d1 : (FloatKind.f64.format.order y hB == some .lt) = true := by
        rw [show (FloatKind.f64.format.order y hB == some .lt) = decide (y < hB) from flt_small (by omega) (by decide)]; exact decide_eq_true hlt
      have hdd := dbl_lt hy0 hlt
      have hcb := c_bound H0.out (Nat.lt_trans hdd.1 hdd.2) HU.out
      have HDD := Lib.hid hdd
      have hlt1 : dbl y < 9218868437227405312 := Nat.lt_trans hdd.2 (by decide)
      have HM : Hid (fmul y cTwo = dbl y) := Lib.hid (fmul_two hlt1 hy1)
      have HCY := Lib.hid (cn_small hy1)
      have ND := Lib.hid (isF_notN (isF_small hlt1))
      have HLT1 := Lib.hid hlt1
      have HLT := Lib.hid hlt
      clear hdd hlt1 hlt hy0 hy1
      go_wp2_with (first | (go_at_call 123; refine (rhalf_any _).mono ?_; rintro e w' ⟨rfl, rfl⟩) | (refine wpList_fop .mul _ _ _ _ y 4611686018427387904 rfl rfl rfl ?_; intro r nr hr; have hr2 : r = dbl y := eq_of_cn (c := dbl y) (by rw [hr, HCY.out]; exact (congrArg (fmul y) (show cn 4611686018427387904 = cTwo by decide +kernel)).trans HM.out) ND.out; subst hr2; clear hr))
      go_roundw
      case rel =>
        refine ⟨dbl y, c + 1, _, rfl, by rw [show -((c + 1 : Nat) : Int) = -(c : Int) - 1 by omega], by first | rfl | (simp only [World.drewN_drewN]; rfl), by have := HDD.out.1; omega, HLT1.out, ?_, .inr HDD.out.2⟩
        rw [units_dbl, HU.out, Nat.pow_succ]
        generalize 2 ^ c = g
        ac_rfl
      case measure =>
        have h1 := HDD.out.1
        have h2 := HLT.out
        have h3 : cHalf = 4604544271217802189 := rfl
        simp [fbits]
        omega
    · have d1 : (FloatKind.f64.format.order y hB == some .lt) = false := by
        rw [show (FloatKind.f64.format.order y hB == some .lt) = decide (y < hB) from flt_small (by omega) (by decide)]; exact decide_eq_false hlt
      have hge : cHalf ≤ y := by omega
      have hcb : c < 1075 := by
        rcases HC.out with h | h
        · omega
        · exact c_bound H0.out h HU.out
      have HGE := Lib.hid hge
      clear hlt hge hy0 hy1
      go_wp2_with (go_at_call 123; refine (rhalf_any _).mono ?_; rintro e w' ⟨rfl, rfl⟩)
      go_loopw [0, 4] (PDown x w) (fun v _ _ => fbits v)
      case atStart => exact ⟨y, c, 0, m, rfl, by simp, rfl, HGE.out, by have := HY1.out; omega, by rw [Nat.pow_zero, Nat.mul_one]; exact HU.out, hcb⟩
      case round =>
        clear HU HC HY0 HY1 HGE d1 hcb
        obtain ⟨y', c', d, m', rfl, rfl, rfl, hge, hd, hu, hcb⟩ := hrel
        have HU := Lib.hid hu
        have HGE := Lib.hid hge
        have hd2 : d < 2047 := by omega
        have hy1 : y' < 9218868437227405312 := by omega
        have HD := Lib.hid hd
        have HY1 := Lib.hid hy1
        clear hu hge hd
        by_cases hlt : dbl cHalf ≤ y'
        · have d1 : (FloatKind.f64.format.order y' 4609047870845172685 == some .gt || FloatKind.f64.format.order y' 4609047870845172685 == some .eq) = true := by
            rw [show (FloatKind.f64.format.order y' 4609047870845172685 == some .gt || FloatKind.f64.format.order y' 4609047870845172685 == some .eq) = decide (4609047870845172685 ≤ y') from fge_small (by omega) (by omega)]; rw [dbl_half] at hlt; exact decide_eq_true hlt
          have hlt2 := hlt
          rw [dbl_half] at hlt2
          have HM : Hid (fdiv y' cTwo = hlf y') := Lib.hid (fdiv_two (by omega) hy1)
          have HCY := Lib.hid (cn_small hy1)
          have hh : hlf y' < 9218868437227405312 := by unfold hlf; omega
          have ND := Lib.hid (isF_notN (isF_small hh))
          have HLT := Lib.hid hlt2
          obtain ⟨z, hz⟩ : ∃ z, z = hlf y' := ⟨_, rfl⟩
          rw [← hz] at HM ND
          have HZ := Lib.hid hz
          clear hlt hlt2 hy1 hh hz
          go_wp2_with (first | (go_at_call 123; refine (rhalf_any _).mono ?_; rintro e w' ⟨rfl, rfl⟩) | (refine wpList_fop .mul _ _ _ _ 4611686018427387904 hB rfl rfl rfl ?_; intro rh nh hrh; have hrh2 : rh = 4609047870845172685 := eq_of_cn (c := 4609047870845172685) (by rw [hrh]; exact HTH.out) (by decide +kernel); subst hrh2; clear hrh) | (refine wpList_fop .quo _ _ _ _ y' 4611686018427387904 rfl rfl rfl ?_; intro r nr hr; have hr2 : z = r := (eq_of_cn (c := z) (by rw [hr, HCY.out]; exact (congrArg (fdiv y') (show cn 4611686018427387904 = cTwo by decide +kernel)).trans HM.out) ND.out).symm; subst hr2; clear hr))
          go_roundw
          case rel =>
            have h3 := HLT.out
            have h4 : cHalf = 4604544271217802189 := rfl
            refine ⟨z, c', d + 1, _, rfl, by rw [show ((d + 1 : Nat) : Int) - (c' : Int) = (d : Int) - (c' : Int) + 1 by omega], by first | rfl | (simp only [World.drewN_drewN]; rfl), by rw [HZ.out]; unfold hlf; omega, by have := HD.out; rw [HZ.out]; unfold hlf; omega, ?_, hcb⟩
            rw [HZ.out]
            rw [← HU.out, ← units_hlf (show 9007199254740992 ≤ y' by omega), Nat.pow_succ]
            generalize unitsOf (hlf y') = q
            generalize 2 ^ d = g
            ac_rfl
          case measure =>
            have h3 := HLT.out
            have h5 := HZ.out
            unfold hlf at h5
            simp [fbits]
            omega
        · have d1 : (FloatKind.f64.format.order y' 4609047870845172685 == some .gt || FloatKind.f64.format.order y' 4609047870845172685 == some .eq) = false := by
            rw [show (FloatKind.f64.format.order y' 4609047870845172685 == some .gt || FloatKind.f64.format.order y' 4609047870845172685 == some .eq) = decide (4609047870845172685 ≤ y') from fge_small (by omega) (by omega)]; rw [dbl_half] at hlt; exact decide_eq_false hlt
          have hlp : LP x y' ((d : Int) - (c' : Int)) := ⟨HGE.out, by omega, c', d, HU.out, rfl⟩
          have HLP := Lib.hid hlp
          clear hlp hlt hy1
          go_wp2_with (first | (go_at_call 123; refine (rhalf_any _).mono ?_; rintro e w' ⟨rfl, rfl⟩) | (refine wpList_fop .mul _ _ _ _ 4611686018427387904 hB rfl rfl rfl ?_; intro rh nh hrh; have hrh2 : rh = 4609047870845172685 := eq_of_cn (c := 4609047870845172685) (by rw [hrh]; exact HTH.out) (by decide +kernel); subst hrh2; clear hrh))
          go_ret2
          exact ⟨y', _, _, HLP.out, by omega, by omega, rfl, HY1.out, by first | rfl | (simp only [World.drewN_drewN]; rfl)⟩

end Go.Proofs.YtmmfjknnbkcniaaGreat
