/- weirref06.Mod: what is left of a number by another, as whole numbers say it. -/
import Derived.Test.YtmmfjknnbkcniaaGreatDoorV15
set_option maxHeartbeats 64000000
set_option maxRecDepth 100000
namespace Go.Fl
open Ieee
def ExactAt (Z v : Nat) (e : Int) : Prop := (0 ≤ e → unitsOf v * 2 ^ e.toNat = Z) ∧ (e ≤ 0 → unitsOf v = Z * 2 ^ (-e).toNat)
theorem exact_start {n g Z v : Nat} {e : Int} (h : n * 2 ^ g = Z) (hg : (g : Int) = e + (K : Int)) (hv : unitsOf v = n * 2 ^ K) : ExactAt Z v e := by
 constructor
 ·intro he
  rw [hv, Nat.mul_assoc, ← Nat.pow_add, show K + e.toNat = g by omega, h]
 ·intro he
  rw [hv, ← h, Nat.mul_assoc, ← Nat.pow_add, show g + (-e).toNat = K by omega]
theorem exact_up {Z v r : Nat} {e : Int} (h : ExactAt Z v e) (he : 0 < e) (hv : v < 9218868437227405312) (hr : r < 9218868437227405312) (hz : unitsOf r = Z) :
  dbl v < 9218868437227405312 ∧ fmul v cTwo = dbl v ∧ ExactAt Z (dbl v) (e - 1) := by
 obtain ⟨a, rfl⟩ : ∃ a : Nat, e = (a : Int) + 1 := ⟨(e - 1).toNat, by omega⟩
 have h1 := h.1 (by omega)
 rw [show ((a : Int) + 1).toNat = a + 1 by omega, Nat.pow_succ] at h1
 have h2 : unitsOf (dbl v) * 2 ^ a = Z := by rw [units_dbl, ← h1]; ac_rfl
 have h3 : unitsOf (dbl v) ≤ unitsOf r := by
  rw [hz, ← h2]; exact Nat.le_mul_of_pos_right _ (Nat.two_pow_pos a)
 have h4 : dbl v ≤ r := Nat.le_of_not_lt fun h => by have := unitsOf_lt h; omega
 refine ⟨by omega, fmul_two (by omega) hv, fun _ => ?_, fun h5 => ?_⟩
 ·rw [show ((a : Int) + 1 - 1).toNat = a by omega, h2]
 ·obtain rfl : a = 0 := by omega
  rw [Nat.pow_zero, Nat.mul_one] at h2
  simpa using h2
theorem exact_down {Z v : Nat} {e : Int} (h : ExactAt Z v e) (he : e < 0) (hv : v < 9218868437227405312) :
  ∃ y, y < 9218868437227405312 ∧ fdiv v cTwo = y ∧ ExactAt Z y (e + 1) := by
 obtain ⟨a, rfl⟩ : ∃ a : Nat, e = -((a : Int) + 1) := ⟨(-e - 1).toNat, by omega⟩
 have h1 := h.2 (by omega)
 rw [show (- -((a : Int) + 1)).toNat = a + 1 by omega, Nat.pow_succ] at h1
 obtain ⟨y, y1, y2⟩ : Rp (Z * 2 ^ a) := by
  refine rp_down (e := 1) ⟨v, hv, ?_⟩
  rw [h1, Nat.pow_one]; ac_rfl
 refine ⟨y, y1, fdiv_half hv y1 (by rw [y2, h1]; ac_rfl), fun h5 => ?_, fun _ => ?_⟩
 ·obtain rfl : a = 0 := by omega
  rw [y2]; simp
 ·rw [y2, show (-(-((a : Int) + 1) + 1)).toNat = a by omega]
theorem exact_end {Z v r : Nat} (h : ExactAt Z v 0) (hz : unitsOf r = Z) : v = r := by
 have := h.1 (by omega)
 simp at this
 exact unitsOf_inj (by rw [this, hz])
end Go.Fl
namespace Go.Proofs.YtmmfjknnbkcniaaGreatDoor
open Go.Fl Go.Rel Go.RowKit
set_option linter.unusedSimpArgs false
set_option linter.unusedVariables false
def WholeR (q : Nat) (w : World) (e : Ending) (w' : World) : Prop :=
 ∃ (n g : Nat) (p : Int), e = .returned (.tuple #[.int .u64 (n : Int), .int .i64 p]) ∧ n * 2 ^ g = unitsOf q ∧ (g : Int) = p + 1074 ∧ n < 9007199254740992 ∧ g ≤ 2045 ∧ w = w'
theorem rwhole_any (x : Nat) (w : World) (hx : x < 18446744073709551616) (hr : rung x < 9218868437227405312) : Calls Tryz.prog 129 #[.float .f64 x] w (WholeR (rung x) w) := by
 obtain ⟨E, hE⟩ : ∃ E, E = rung x / 4503599627370496 := ⟨_, rfl⟩
 obtain ⟨low, hlow⟩ : ∃ low, low = rung x % 4503599627370496 := ⟨_, rfl⟩
 have hl : low < 4503599627370496 := by omega
 have hE2 : E ≤ 2046 := by omega
 have hru : rung x = x % 9223372036854775808 := rfl
 have hb1 : bits .and .u64 ((x : Int) / 4503599627370496) 2047 = (E : Int) := by
  have e : (x : Int) / 4503599627370496 = ((x / 4503599627370496 : Nat) : Int) := by omega
  rw [e]
  have := u64_and_nat (x / 4503599627370496) 2047 (by omega) (by omega)
  rw [nat_mask11, show x / 4503599627370496 % 2048 = E by rw [hE, hru]; omega] at this
  exact this
 have hb2 : bits .and .u64 (x : Int) 4503599627370495 = (low : Int) := by
  have := u64_and_nat x 4503599627370495 (by omega) (by omega)
  have e : x &&& 4503599627370495 = x % 4503599627370496 := Nat.and_two_pow_sub_one_eq_mod x 52
  rw [e, show x % 4503599627370496 = low by rw [hlow, hru]; omega] at this
  exact this
 have hby := bits_run x
 have hb3 := or_one low hl
 have hrr : rung x = E * 4503599627370496 + low := by omega
 have e1 : (0 : Int) ≤ (E : Int) := by omega
 have e2 : (E : Int) ≤ 2046 := by omega
 have hxi : (x : Int) < 18446744073709551616 := by omega
 by_cases h0 : E = 0
 ·have hz : ((E : Int) == 0) = true := by rw [h0]; rfl
  have HU : Hid (unitsOf (rung x) = low) := qh (by rw [hrr, h0]; unfold unitsOf; rw [if_pos (by omega)]; omega)
  have HL := qh hl
  clear hE hlow hE2 hru hrr hl h0 hr hx
  go_enter Tryz.func129, Tryz.ntmps129
  go_wp2_with (simp only [hby])
  go_ret2
  have hl := HL.out
  exact ⟨low, 0, -1074, rfl, by rw [HU.out]; omega, by omega, by omega, by omega, rfl⟩
 ·have hz : ((E : Int) == 0) = false := by simp; omega
  have HU : Hid (unitsOf (rung x) = (4503599627370496 + low) * 2 ^ (E - 1)) := qh (by rw [hrr]; exact units_norm (by omega) hl)
  have HL := qh hl
  have HE0 := qh h0
  clear hE hlow hE2 hru hrr hl h0 hr hx
  go_enter Tryz.func129, Tryz.ntmps129
  go_wp2_with (simp only [hby])
  go_ret2
  have hl := HL.out
  have h0 := HE0.out
  exact ⟨4503599627370496 + low, E - 1, (E : Int) - 1075, rfl, HU.out.symm, by omega, by omega, by omega, rfl⟩
def OutRel (Z : Nat) (w : World) (v0 v1 : Value) (wr : World) : Prop :=
 ∃ (n g : Nat) (e : Int), v0 = .int .u64 (n : Int) ∧ v1 = .int .i64 e ∧ n * 2 ^ g = Z ∧ (g : Int) = e + 1074 ∧ 0 < n ∧ n < 9223372036854775808 ∧ w = wr
def UpRel (Z : Nat) (w : World) (v1 v5 : Value) (wr : World) : Prop :=
 ∃ (v m : Nat) (e : Int), v1 = .int .i64 e ∧ v5 = .float .f64 v ∧ v < 9218868437227405312 ∧ ExactAt Z v e ∧ -1074 ≤ e ∧ e ≤ 2098 ∧ wr = w.drewN m
def DownRel (Z : Nat) (w : World) (v1 v5 : Value) (wr : World) : Prop :=
 ∃ (v m : Nat) (e : Int), v1 = .int .i64 e ∧ v5 = .float .f64 v ∧ v < 9218868437227405312 ∧ ExactAt Z v e ∧ -1074 ≤ e ∧ e ≤ 0 ∧ wr = w.drewN m
theorem out_bounds {n g Z r : Nat} {e : Int} (h0 : 0 < n) (h : n * 2 ^ g = Z) (hr : r < 9218868437227405312) (hz : unitsOf r = Z) (hg : (g : Int) = e + 1074) : -1074 ≤ e ∧ e ≤ 1024 := by
 have h1 := rp_lt ⟨r, hr, hz⟩
 have h2 : 2 ^ g ≤ Z := by rw [← h]; exact Nat.le_mul_of_pos_left _ h0
 have h4 := (Nat.pow_lt_pow_iff_right (a := 2) (by omega)).1 (Nat.lt_of_le_of_lt h2 h1)
 rw [TopE_eq] at h4
 omega
theorem exact_any (n g Z r : Nat) (e : Int) (w : World) (h : n * 2 ^ g = Z) (hg : (g : Int) = e + 1074) (hn : n < 9223372036854775808) (hr : r < 9218868437227405312) (hz : unitsOf r = Z) (he2 : e ≤ 2098) :
  Calls Tryz.prog 131 #[.int .u64 (n : Int), .int .i64 e] w (LdexpR r w) := by
 have HR := qh hr
 have HZ := qh hz
 by_cases h0 : n = 0
 ·have hr0 : Hid (r = 0) := qh (unitsOf_inj (by rw [hz, ← h, h0, Nat.zero_mul]; decide))
  have hz0 : ((n : Int) == 0) = true := by rw [h0]; rfl
  clear h hg hn hr hz he2
  subst h0
  go_enter Tryz.func131, Tryz.ntmps131
  go_wp2_with fail
  go_ret
  exact ⟨0, by rw [hr0.out]; rfl, rfl⟩
 have hz0 : ((n : Int) == 0) = false := by simp; omega
 have HOUT : Hid (OutRel Z w (.int .u64 (n : Int)) (.int .i64 e) w) := qh ⟨n, g, e, rfl, rfl, h, hg, by omega, hn, rfl⟩
 clear h hg hn hr hz he2 h0
 go_enter Tryz.func131, Tryz.ntmps131
 go_wp2_with fail
 go_loopw [0, 1] (OutRel Z w) (fun v _ _ => (intOf v).toNat)
 case atStart => exact HOUT.out
 case round =>
  obtain ⟨n, g, e, rfl, rfl, h, hg, h0, hn, rfl⟩ := hrel
  obtain ⟨eb1, eb2⟩ := out_bounds h0 h HR.out HZ.out hg
  have hn1 : (0 : Int) ≤ (n : Int) := by omega
  have hn2 : (n : Int) < 9223372036854775808 := by omega
  by_cases hc : n % 2 = 0 ∧ e < 900
  ·have d1 : ((n : Int) % 2 == 0) = true := by simp; omega
   have d2 : decide (e < 900) = true := decide_eq_true hc.2
   obtain ⟨n2, hn2e⟩ : ∃ n2, n2 = n / 2 := ⟨_, rfl⟩
   have hdv : (n : Int).tdiv 2 = (n2 : Int) := by rw [Int.tdiv_eq_ediv_of_nonneg hn1]; omega
   have n2a : (0 : Int) ≤ (n2 : Int) := by omega
   have n2b : (n2 : Int) < 9223372036854775808 := by omega
   have hnew : Hid (n2 * 2 ^ (g + 1) = Z) := qh (by
    rw [Nat.pow_succ, ← h, Nat.mul_comm (2 ^ g), ← Nat.mul_assoc, show n2 * 2 = n by omega])
   have HN2 := qh hn2e
   have HG := qh hg
   have H0 := qh h0
   have HN := qh hn
   have HC := qh hc
   clear h hg h0 hn hc hn2e
   go_wp2_with fail
   go_roundw
   case rel => exact ⟨n2, g + 1, e + 1, rfl, rfl, hnew.out, by have := HG.out; omega, by have := HC.out; have := H0.out; have := HN2.out; omega, by omega, rfl⟩
   case measure => have := H0.out; have := HN2.out; simp [intOf]; omega
  ·obtain ⟨v, v1, v2⟩ := rp_units (Z := Z) (g := g) (n := n) (e := e) ⟨r, HR.out, HZ.out⟩ h (by rw [K_eq]; omega) (by omega)
   have hwz : floatOfInt .f64 (n : Int) = v := wz_exact v1 v2
   have HV1 := qh v1
   have HEX := qh (exact_start (v := v) h (by rw [K_eq]; omega) v2)
   by_cases hodd : n % 2 = 0
   ·have d1 : ((n : Int) % 2 == 0) = true := by simp; omega
    have d2 : decide (e < 900) = false := decide_eq_false (fun h => hc ⟨hodd, h⟩)
    clear h hg h0 hn hc hodd v1 v2
    go_wp2_with fail
    go_loopw [1, 5] (UpRel Z w) (fun v _ _ => (intOf v).toNat)
    case atStart => exact ⟨v, 0, e, rfl, rfl, HV1.out, HEX.out, eb1, by omega, rfl⟩
    case round =>
     obtain ⟨u, m, f, rfl, rfl, hu, hat, f1, f2, rfl⟩ := hrel
     have HUC := qh (cn_small hu)
     by_cases hf : 0 < f
     ·have d3 : decide (0 < f) = true := decide_eq_true hf
      obtain ⟨g1, g2, g3⟩ := exact_up hat hf hu HR.out HZ.out
      obtain ⟨y, hy⟩ : ∃ y, y = dbl u := ⟨_, rfl⟩
      rw [← hy] at g1 g2 g3
      have G1 := qh g1
      have G2 : Hid (fmul (cn u) (cn 4611686018427387904) = y) := qh (by rw [HUC.out, show cn 4611686018427387904 = cTwo by decide +kernel]; exact g2)
      have G3 := qh g3
      clear hu hat g1 g2 g3 hy
      go_wp2_with (refine wpList_fop .mul _ _ _ _ u 4611686018427387904 rfl rfl rfl ?_; intro y' ny hy'; have hy2 : y' = y := eq_of_cn (c := y) (by rw [hy']; exact G2.out) (isF_notN (isF_small G1.out)); subst hy2; clear hy')
      go_roundw
      case rel => exact ⟨_, _, _, rfl, rfl, G1.out, G3.out, by omega, by omega, by first | rfl | (simp only [World.drewN_drewN]; rfl)⟩
      case measure => simp [intOf]; omega
     ·have d3 : decide (0 < f) = false := decide_eq_false hf
      have f3 : f ≤ 0 := by omega
      have HU := qh hu
      have HAT := qh hat
      clear hu hat
      go_wp2_with fail
      go_loopw [1, 5] (DownRel Z w) (fun v _ _ => (-intOf v).toNat)
      case atStart => exact ⟨u, m, f, rfl, rfl, HU.out, HAT.out, by omega, f3, rfl⟩
      case round =>
       obtain ⟨u, m, f, rfl, rfl, hu, hat, f1, f3, rfl⟩ := hrel
       have HUC := qh (cn_small hu)
       by_cases hf : f < 0
       ·have d4 : decide (f < 0) = true := decide_eq_true hf
        have d5 : decide (-2000 < f) = true := decide_eq_true (by omega)
        obtain ⟨y, g1, g2, g3⟩ := exact_down hat hf hu
        have G1 := qh g1
        have G2 : Hid (fdiv (cn u) (cn 4611686018427387904) = y) := qh (by rw [HUC.out, show cn 4611686018427387904 = cTwo by decide +kernel]; exact g2)
        have G3 := qh g3
        clear hu hat g1 g2 g3
        go_wp2_with (refine wpList_fop .quo _ _ _ _ u 4611686018427387904 rfl rfl rfl ?_; intro y' ny hy'; have hy2 : y' = y := eq_of_cn (c := y) (by rw [hy']; exact G2.out) (isF_notN (isF_small G1.out)); subst hy2; clear hy')
        go_roundw
        case rel => exact ⟨_, _, _, rfl, rfl, G1.out, G3.out, by omega, by omega, by first | rfl | (simp only [World.drewN_drewN]; rfl)⟩
        case measure => simp [intOf]; omega
       ·have d4 : decide (f < 0) = false := decide_eq_false hf
        have hf0 : f = 0 := by omega
        subst hf0
        have HE := qh (exact_end hat HZ.out)
        clear hu hat hf
        go_wp2_with fail
        go_ret
        exact ⟨_, by rw [HE.out]; rfl, by first | rfl | (simp only [World.drewN_drewN]; rfl)⟩
   ·have d1 : ((n : Int) % 2 == 0) = false := by simp; omega
    clear h hg h0 hn hc hodd v1 v2
    go_wp2_with fail
    go_loopw [1, 5] (UpRel Z w) (fun v _ _ => (intOf v).toNat)
    case atStart => exact ⟨v, 0, e, rfl, rfl, HV1.out, HEX.out, eb1, by omega, rfl⟩
    case round =>
     obtain ⟨u, m, f, rfl, rfl, hu, hat, f1, f2, rfl⟩ := hrel
     have HUC := qh (cn_small hu)
     by_cases hf : 0 < f
     ·have d3 : decide (0 < f) = true := decide_eq_true hf
      obtain ⟨g1, g2, g3⟩ := exact_up hat hf hu HR.out HZ.out
      obtain ⟨y, hy⟩ : ∃ y, y = dbl u := ⟨_, rfl⟩
      rw [← hy] at g1 g2 g3
      have G1 := qh g1
      have G2 : Hid (fmul (cn u) (cn 4611686018427387904) = y) := qh (by rw [HUC.out, show cn 4611686018427387904 = cTwo by decide +kernel]; exact g2)
      have G3 := qh g3
      clear hu hat g1 g2 g3 hy
      go_wp2_with (refine wpList_fop .mul _ _ _ _ u 4611686018427387904 rfl rfl rfl ?_; intro y' ny hy'; have hy2 : y' = y := eq_of_cn (c := y) (by rw [hy']; exact G2.out) (isF_notN (isF_small G1.out)); subst hy2; clear hy')
      go_roundw
      case rel => exact ⟨_, _, _, rfl, rfl, G1.out, G3.out, by omega, by omega, by first | rfl | (simp only [World.drewN_drewN]; rfl)⟩
      case measure => simp [intOf]; omega
     ·have d3 : decide (0 < f) = false := decide_eq_false hf
      have f3 : f ≤ 0 := by omega
      have HU := qh hu
      have HAT := qh hat
      clear hu hat
      go_wp2_with fail
      go_loopw [1, 5] (DownRel Z w) (fun v _ _ => (-intOf v).toNat)
      case atStart => exact ⟨u, m, f, rfl, rfl, HU.out, HAT.out, by omega, f3, rfl⟩
      case round =>
       obtain ⟨u, m, f, rfl, rfl, hu, hat, f1, f3, rfl⟩ := hrel
       have HUC := qh (cn_small hu)
       by_cases hf : f < 0
       ·have d4 : decide (f < 0) = true := decide_eq_true hf
        have d5 : decide (-2000 < f) = true := decide_eq_true (by omega)
        obtain ⟨y, g1, g2, g3⟩ := exact_down hat hf hu
        have G1 := qh g1
        have G2 : Hid (fdiv (cn u) (cn 4611686018427387904) = y) := qh (by rw [HUC.out, show cn 4611686018427387904 = cTwo by decide +kernel]; exact g2)
        have G3 := qh g3
        clear hu hat g1 g2 g3
        go_wp2_with (refine wpList_fop .quo _ _ _ _ u 4611686018427387904 rfl rfl rfl ?_; intro y' ny hy'; have hy2 : y' = y := eq_of_cn (c := y) (by rw [hy']; exact G2.out) (isF_notN (isF_small G1.out)); subst hy2; clear hy')
        go_roundw
        case rel => exact ⟨_, _, _, rfl, rfl, G1.out, G3.out, by omega, by omega, by first | rfl | (simp only [World.drewN_drewN]; rfl)⟩
        case measure => simp [intOf]; omega
       ·have d4 : decide (f < 0) = false := decide_eq_false hf
        have hf0 : f = 0 := by omega
        subst hf0
        have HE := qh (exact_end hat HZ.out)
        clear hu hat hf
        go_wp2_with fail
        go_ret
        exact ⟨_, by rw [HE.out]; rfl, by first | rfl | (simp only [World.drewN_drewN]; rfl)⟩
theorem rsigned_any (v x : Nat) (w : World) (hv : v < 9223372036854775808) (hx : x < 18446744073709551616) :
  Calls Tryz.prog 130 #[.float .f64 v, .float .f64 x] w fun e w' => e = .returned (.float .f64 (Ieee.double.word (sgn x) v)) ∧ w = w' := by
 have H := qh (fun w => copysign_any v x w hv hx)
 clear hv hx
 go_enter Tryz.func130, Tryz.ntmps130
 go_wp2_with (go_at_call 111; refine (H.out _).mono ?_; rintro e w' ⟨rfl, rfl⟩)
 go_ret
 exact ⟨rfl, rfl⟩
def BRel (Y : Nat) (i : Int) (w : World) (v7 v8 : Value) (wr : World) : Prop :=
 ∃ (b gj : Nat) (j : Int), v7 = .int .u64 (b : Int) ∧ v8 = .int .i64 j ∧ b * 2 ^ gj = Y ∧ (gj : Int) = j + 1074 ∧ 0 < b ∧ b < 9223372036854775808 ∧ i ≤ j ∧ j ≤ 971 ∧ w = wr
def RemRel (D b : Nat) (j : Int) (w : World) (v9 v6 : Value) (wr : World) : Prop :=
 ∃ (r : Nat) (i : Int), v9 = .int .u64 (r : Int) ∧ v6 = .int .i64 i ∧ r < b ∧ j ≤ i ∧ r * 2 ^ (i - j).toNat % b = D ∧ i ≤ 971 ∧ w = wr
theorem rem_all {a b gi gj X Y : Nat} {i j : Int} (ha : a * 2 ^ gi = X) (hgi : (gi : Int) = i + 1074) (hb : b * 2 ^ gj = Y) (hgj : (gj : Int) = j + 1074) (h : j ≤ i) : a * 2 ^ (i - j).toNat % b * 2 ^ gj = X % Y := by
 rw [← ha, ← hb, show gi = (i - j).toNat + gj by omega, Nat.pow_add, ← Nat.mul_assoc, Nat.mul_mod_mul_right]
theorem rmod_fin (x y : Nat) (w : World) (hx : x < 18446744073709551616) (hy : y < 18446744073709551616) (hx0 : 0 < rung x) (hx1 : rung x < 9218868437227405312) (hy0 : 0 < rung y) (hy1 : rung y < 9218868437227405312) :
  Calls Tryz.prog 96 #[.float .f64 x, .float .f64 y] w (FRetF (modS x y) w) := by
 have hNx : isN x = false := isF_notN hx1
 have hNy : isN y = false := isF_notN hy1
 have hz : (FloatKind.f64.format.order y 0 == some .eq) = false := by rw [show (FloatKind.f64.format.order y 0 == some .eq) = decide (rung y = 0) from feq0_rung]; exact decide_eq_false (by omega)
 have hzx : (FloatKind.f64.format.order x 0 == some .eq) = false := by rw [show (FloatKind.f64.format.order x 0 == some .eq) = decide (rung x = 0) from feq0_rung]; exact decide_eq_false (by omega)
 have hi : finf (cn x) = false := by rw [finf_rung]; exact decide_eq_false (by omega)
 have hiy : finf (cn y) = false := by rw [finf_rung]; exact decide_eq_false (by omega)
 obtain ⟨X, hX⟩ : ∃ X, X = unitsOf (rung x) := ⟨_, rfl⟩
 obtain ⟨Y, hY⟩ : ∃ Y, Y = unitsOf (rung y) := ⟨_, rfl⟩
 have hYp : 0 < Y := by rw [hY]; exact unitsOf_pos.2 hy0
 obtain ⟨Z, hZ⟩ : ∃ Z, Z = X % Y := ⟨_, rfl⟩
 obtain ⟨rr, hrr, hzr⟩ : Rp Z := by rw [hZ]; exact rp_mod ⟨rung x, hx1, hX.symm⟩ ⟨rung y, hy1, hY.symm⟩ hYp
 have HEND : Hid (cn (Ieee.double.word (sgn x) rr) = modS x y) := qh (by
  unfold modS
  rw [if_neg (by rw [hNx, hNy]; simp; omega), if_neg (by omega), modW_of hrr (by rw [← hX, ← hY, ← hZ]; exact hzr), cn_of_notN (notN_word _ (by omega))])
 have HENDX : Hid (X < Y → cn x = modS x y) := qh (fun h => by
  rw [← HEND.out, cn_of_notN hNx, cn_of_notN (notN_word _ (by omega))]
  have : rr = rung x := unitsOf_inj (by rw [hzr, hZ, Nat.mod_eq_of_lt h, hX])
  rw [this]
  exact word_of hx)
 have HWX := qh (fun w => rwhole_any x w hx hx1)
 have HWY := qh (fun w => rwhole_any y w hy hy1)
 have HSG := qh (fun w => rsigned_any rr x w (by omega) hx)
 have HX := qh hX
 have HY := qh hY
 have HYP := qh hYp
 have HRR := qh hrr
 have HZR := qh hzr
 have HZ := qh hZ
 clear hX hY hYp hrr hzr hZ hx hy hx0 hx1 hy0 hy1
 go_enter Tryz.func96, Tryz.ntmps96
 go_wp2_with (first | (go_at_call 126; refine (bad_any _ _).mono ?_; rintro e w' ⟨rfl, rfl⟩; first | rw [hNx] | rw [hNy]) | (go_at_call 127; refine (endless_any _ _).mono ?_; rintro e w' ⟨rfl, rfl⟩; first | rw [hi] | rw [hiy]))
 go_at_call 129
 refine (HWX.out _).mono ?_
 rintro e w' ⟨a, gi, i, rfl, ha, hgi, ha2, hgi2, rfl⟩
 rw [← HX.out] at ha
 have i1 : -1074 ≤ i := by omega
 have i2 : i ≤ 971 := by omega
 have a1 : (0 : Int) ≤ (a : Int) := by omega
 have a2 : (a : Int) < 9007199254740992 := by omega
 have HA := qh ha
 have HGI := qh hgi
 clear ha hgi ha2 hgi2
 go_wp2_with fail
 go_at_call 129
 refine (HWY.out _).mono ?_
 rintro e w' ⟨b, gj, j, rfl, hb, hgj, hb2, hgj2, rfl⟩
 rw [← HY.out] at hb
 have j1 : -1074 ≤ j := by omega
 have j2 : j ≤ 971 := by omega
 have b0 : 0 < b := by
  rcases Nat.eq_zero_or_pos b with h | h
  ·rw [h, Nat.zero_mul] at hb; have := HYP.out; omega
  ·exact h
 by_cases hij : i < j
 ·have d1 : decide (i < j) = true := decide_eq_true hij
  have HST0 : Hid (BRel Y i w (.int .u64 (b : Int)) (.int .i64 j) w) := qh ⟨b, gj, j, rfl, rfl, hb, hgj, b0, by omega, by omega, by omega, rfl⟩
  have bb1 : (0 : Int) < (b : Int) := by omega
  have bb2 : (b : Int) < 9007199254740992 := by omega
  clear hb hgj hb2 hgj2 b0
  go_wp2_with fail
  go_loopw [7, 8] (BRel Y i w) (fun _ v _ => (intOf v - i).toNat)
  case atStart => exact HST0.out
  case round =>
   obtain ⟨b, gj, j, rfl, rfl, hb, hgj, b0, hb2, hij, j2, rfl⟩ := hrel
   have j1 : -1074 ≤ j := by omega
   have bb1 : (0 : Int) < (b : Int) := by omega
   have bb2 : (b : Int) < 9223372036854775808 := by omega
   have bb3 : (b : Int) ≠ 0 := by omega
   by_cases hlt : i < j
   ·have d2 : decide (i < j) = true := decide_eq_true hlt
    by_cases hbl : b < 4611686018427387904
    ·have d3 : decide ((b : Int) < 4611686018427387904) = true := decide_eq_true (by omega)
     obtain ⟨gk, hgk⟩ : ∃ gk : Nat, gj = gk + 1 := ⟨gj - 1, by omega⟩
     obtain ⟨b', hb'⟩ : ∃ b', b' = b * 2 := ⟨_, rfl⟩
     have hbm : (b : Int) * 2 = (b' : Int) := by omega
     have HB : Hid (b' * 2 ^ gk = Y) := qh (by rw [hb', ← hb, hgk, Nat.pow_succ]; ac_rfl)
     have HG : Hid ((gk : Int) = j - 1 + 1074) := qh (by omega)
     have hb3 : (b' : Int) < 9223372036854775808 := by omega
     have hb4 : (0 : Int) < (b' : Int) := by omega
     clear hb hgj b0 hb2 hgk hb' hbl
     go_wp2_with fail
     go_roundw
     case rel => exact ⟨b', gk, j - 1, rfl, rfl, HB.out, HG.out, by omega, by omega, by omega, by omega, rfl⟩
     case measure => simp [intOf]; omega
    ·have d3 : decide ((b : Int) < 4611686018427387904) = false := decide_eq_false (by omega)
     have HE := qh (HENDX.out (by
      obtain ⟨d, hd⟩ : ∃ d : Nat, gj = gi + d := ⟨gj - gi, by have := HGI.out; omega⟩
      rw [← HA.out, ← hb, hd, Nat.pow_add, Nat.mul_left_comm, Nat.mul_comm a]
      refine Nat.mul_lt_mul_of_pos_left ?_ (Nat.two_pow_pos gi)
      have := Nat.le_mul_of_pos_right b (Nat.two_pow_pos d)
      omega))
     clear hb hgj b0 hb2 hbl
     go_wp2_with fail
     go_ret
     exact ⟨x, 0, rfl, HE.out, rfl⟩
   ·have d2 : decide (i < j) = false := decide_eq_false hlt
    have hije : i = j := by omega
    obtain ⟨D, hD⟩ : ∃ D, D = a % b := ⟨_, rfl⟩
    have hrem : (a : Int).tmod (b : Int) = (D : Int) := by
     rw [Int.tmod_eq_emod_of_nonneg (by omega), hD]; omega
    have hDb : D < b := by rw [hD]; exact Nat.mod_lt _ b0
    have dn1 : (0 : Int) ≤ (D : Int) := by omega
    have dn2 : (D : Int) < 9223372036854775808 := by omega
    have HDZ : Hid (D * 2 ^ gj = Z) := qh (by
     have := rem_all HA.out HGI.out hb hgj (by omega)
     rw [HZ.out, ← this, hD, show (i - j).toNat = 0 by omega, Nat.pow_zero, Nat.mul_one])
    have HGJ := qh hgj
    have HJ : Hid (j ≤ 2098) := qh (by omega)
    have HST : Hid (RemRel D b j w (.int .u64 (D : Int)) (.int .i64 i) w) := qh ⟨D, i, rfl, rfl, hDb, by omega, by rw [show (i - j).toNat = 0 by omega, Nat.pow_zero, Nat.mul_one, Nat.mod_eq_of_lt hDb], by omega, rfl⟩
    clear hb hgj hb2 hD hDb b0 hij hlt hije
    go_wp2_with fail
    go_loopw [9, 6] (RemRel D b j w) (fun _ v _ => (intOf v - j).toNat)
    case atStart => exact HST.out
    case round =>
     obtain ⟨r, i2, rfl, rfl, hrb, hji, hD, hi9, rfl⟩ := hrel
     have rn1 : (0 : Int) ≤ (r : Int) := by omega
     have rn2 : (r : Int) < 9223372036854775808 := by omega
     have i8 : -1074 ≤ i2 := by omega
     by_cases hij2 : j < i2
     ·have d4 : decide (j < i2) = true := decide_eq_true hij2
      obtain ⟨r', hr'⟩ : ∃ r', r' = r * 2 % b := ⟨_, rfl⟩
      have hrem2 : ((r : Int) * 2).tmod (b : Int) = (r' : Int) := by
       rw [Int.tmod_eq_emod_of_nonneg (by omega), hr', Int.natCast_emod, Int.natCast_mul]; rfl
      have hlt' : r' < b := by rw [hr']; exact Nat.mod_lt _ (by omega)
      have rn3 : (0 : Int) ≤ (r' : Int) := by omega
      have rn4 : (r' : Int) < 9223372036854775808 := by omega
      have HD2 : Hid (r' * 2 ^ (i2 - 1 - j).toNat % b = D) := qh (by
       rw [hr', ← hD, Nat.mod_mul_mod, show (i2 - j).toNat = (i2 - 1 - j).toNat + 1 by omega, Nat.pow_succ', Nat.mul_assoc])
      have HLT := qh hlt'
      clear hD hrb hr' hlt'
      go_wp2_with fail
      go_roundw
      case rel => exact ⟨r', i2 - 1, rfl, rfl, HLT.out, by omega, HD2.out, by omega, rfl⟩
      case measure => simp [intOf]; omega
     ·have d4 : decide (j < i2) = false := decide_eq_false hij2
      have hi2 : i2 = j := by omega
      have hrD : r = D := by
       rw [hi2, show (j - j).toNat = 0 by omega, Nat.pow_zero, Nat.mul_one, Nat.mod_eq_of_lt hrb] at hD
       exact hD
      have HEX := qh (fun w => exact_any r gj Z rr j w (by rw [hrD]; exact HDZ.out) HGJ.out (by omega) HRR.out HZR.out HJ.out)
      clear hD hrb hij2 hrD
      subst hi2
      go_wp2_with (first | (go_at_call 131; refine (HEX.out _).mono ?_; rintro e w' ⟨n9, rfl, rfl⟩) | (go_at_call 130; refine (HSG.out _).mono ?_; rintro e w' ⟨rfl, rfl⟩))
      go_ret
      exact ⟨_, n9, rfl, HEND.out, by first | rfl | (simp only [World.drewN_drewN]; rfl)⟩
 ·have d1 : decide (i < j) = false := decide_eq_false hij
  obtain ⟨D0, hD0⟩ : ∃ D0, D0 = a % b := ⟨_, rfl⟩
  obtain ⟨D, hD⟩ : ∃ D, D = a * 2 ^ (i - j).toNat % b := ⟨_, rfl⟩
  have hrem : (a : Int).tmod (b : Int) = (D0 : Int) := by
   rw [Int.tmod_eq_emod_of_nonneg (by omega), hD0]; omega
  have hDb : D0 < b := by rw [hD0]; exact Nat.mod_lt _ b0
  have dn1 : (0 : Int) ≤ (D0 : Int) := by omega
  have dn2 : (D0 : Int) < 9223372036854775808 := by omega
  have HDZ : Hid (D * 2 ^ gj = Z) := qh (by
   have := rem_all HA.out HGI.out hb hgj (by omega)
   rw [HZ.out, ← this, hD])
  have HGJ := qh hgj
  have HJ : Hid (j ≤ 2098) := qh (by omega)
  have HST : Hid (RemRel D b j w (.int .u64 (D0 : Int)) (.int .i64 i) w) := qh ⟨D0, i, rfl, rfl, hDb, by omega, by rw [hD0, hD, Nat.mod_mul_mod], by omega, rfl⟩
  have bb1 : (0 : Int) < (b : Int) := by omega
  have bb2 : (b : Int) < 9223372036854775808 := by omega
  have bb3 : (b : Int) ≠ 0 := by omega
  clear hb hgj hb2 hgj2 hD hD0 hDb b0 hij
  go_wp2_with fail
  go_loopw [9, 6] (RemRel D b j w) (fun _ v _ => (intOf v - j).toNat)
  case atStart => exact HST.out
  case round =>
   obtain ⟨r, i2, rfl, rfl, hrb, hji, hD, hi9, rfl⟩ := hrel
   have rn1 : (0 : Int) ≤ (r : Int) := by omega
   have rn2 : (r : Int) < 9223372036854775808 := by omega
   have i8 : -1074 ≤ i2 := by omega
   by_cases hij2 : j < i2
   ·have d4 : decide (j < i2) = true := decide_eq_true hij2
    obtain ⟨r', hr'⟩ : ∃ r', r' = r * 2 % b := ⟨_, rfl⟩
    have hrem2 : ((r : Int) * 2).tmod (b : Int) = (r' : Int) := by
     rw [Int.tmod_eq_emod_of_nonneg (by omega), hr', Int.natCast_emod, Int.natCast_mul]; rfl
    have hlt' : r' < b := by rw [hr']; exact Nat.mod_lt _ (by omega)
    have rn3 : (0 : Int) ≤ (r' : Int) := by omega
    have rn4 : (r' : Int) < 9223372036854775808 := by omega
    have HD2 : Hid (r' * 2 ^ (i2 - 1 - j).toNat % b = D) := qh (by
     rw [hr', ← hD, Nat.mod_mul_mod, show (i2 - j).toNat = (i2 - 1 - j).toNat + 1 by omega, Nat.pow_succ', Nat.mul_assoc])
    have HLT := qh hlt'
    clear hD hrb hr' hlt'
    go_wp2_with fail
    go_roundw
    case rel => exact ⟨r', i2 - 1, rfl, rfl, HLT.out, by omega, HD2.out, by omega, rfl⟩
    case measure => simp [intOf]; omega
   ·have d4 : decide (j < i2) = false := decide_eq_false hij2
    have hi2 : i2 = j := by omega
    have hrD : r = D := by
     rw [hi2, show (j - j).toNat = 0 by omega, Nat.pow_zero, Nat.mul_one, Nat.mod_eq_of_lt hrb] at hD
     exact hD
    have HEX := qh (fun w => exact_any r gj Z rr j w (by rw [hrD]; exact HDZ.out) HGJ.out (by omega) HRR.out HZR.out HJ.out)
    clear hD hrb hij2 hrD
    subst hi2
    go_wp2_with (first | (go_at_call 131; refine (HEX.out _).mono ?_; rintro e w' ⟨n9, rfl, rfl⟩) | (go_at_call 130; refine (HSG.out _).mono ?_; rintro e w' ⟨rfl, rfl⟩))
    go_ret
    exact ⟨_, n9, rfl, HEND.out, by first | rfl | (simp only [World.drewN_drewN]; rfl)⟩
theorem rmod_none (x y : Nat) (w : World) (h : rung y = 0 ∨ rung x = 9218868437227405312 ∨ isN x = true ∨ isN y = true) :
  Calls Tryz.prog 96 #[.float .f64 x, .float .f64 y] w (FRetF (modS x y) w) := by
 have HEND : Hid (cn 9221120237041090561 = modS x y) := qh (by
  unfold modS
  rw [if_pos (by rcases h with h | h | h | h <;> simp [h])]
  decide +kernel)
 have hz : (FloatKind.f64.format.order y 0 == some .eq) = decide (rung y = 0) := feq0_rung
 have hi : finf (cn x) = decide (rung x = 9218868437227405312) := finf_rung
 cases h1 : isN x
 case true =>
  have h2 := h1
  have hiy := h1
  clear h hz hi
  go_enter Tryz.func96, Tryz.ntmps96
  go_wp2_with (first | (go_at_call 126; refine (bad_any _ _).mono ?_; rintro e w' ⟨rfl, rfl⟩; first | rw [h1] | rw [h2]) | (go_at_call 127; refine (endless_any _ _).mono ?_; rintro e w' ⟨rfl, rfl⟩; first | rw [hi] | rw [hiy]) | (go_at_call 128; refine (refnan_any _).mono ?_; rintro e w' ⟨rfl, rfl⟩))
  go_ret
  exact ⟨_, 0, rfl, HEND.out, rfl⟩
 cases h2 : isN y
 case true =>
  have hiy := h1
  clear h hz hi
  go_enter Tryz.func96, Tryz.ntmps96
  go_wp2_with (first | (go_at_call 126; refine (bad_any _ _).mono ?_; rintro e w' ⟨rfl, rfl⟩; first | rw [h1] | rw [h2]) | (go_at_call 127; refine (endless_any _ _).mono ?_; rintro e w' ⟨rfl, rfl⟩; first | rw [hi] | rw [hiy]) | (go_at_call 128; refine (refnan_any _).mono ?_; rintro e w' ⟨rfl, rfl⟩))
  go_ret
  exact ⟨_, 0, rfl, HEND.out, rfl⟩
 rw [h1, h2] at h
 by_cases h3 : rung x = 9218868437227405312
 ·rw [decide_eq_true h3] at hi
  have hiy := h1
  clear h hz h3
  go_enter Tryz.func96, Tryz.ntmps96
  go_wp2_with (first | (go_at_call 126; refine (bad_any _ _).mono ?_; rintro e w' ⟨rfl, rfl⟩; first | rw [h1] | rw [h2]) | (go_at_call 127; refine (endless_any _ _).mono ?_; rintro e w' ⟨rfl, rfl⟩; first | rw [hi] | rw [hiy]) | (go_at_call 128; refine (refnan_any _).mono ?_; rintro e w' ⟨rfl, rfl⟩))
  go_ret
  exact ⟨_, 0, rfl, HEND.out, rfl⟩
 ·rw [decide_eq_false h3] at hi
  have h4 : rung y = 0 := by simpa [h3] using h
  rw [decide_eq_true h4] at hz
  have hiy := h1
  clear h h3 h4
  go_enter Tryz.func96, Tryz.ntmps96
  go_wp2_with (first | (go_at_call 126; refine (bad_any _ _).mono ?_; rintro e w' ⟨rfl, rfl⟩; first | rw [h1] | rw [h2]) | (go_at_call 127; refine (endless_any _ _).mono ?_; rintro e w' ⟨rfl, rfl⟩; first | rw [hi] | rw [hiy]) | (go_at_call 128; refine (refnan_any _).mono ?_; rintro e w' ⟨rfl, rfl⟩))
  go_ret
  exact ⟨_, 0, rfl, HEND.out, rfl⟩
theorem rmod_still (x y : Nat) (w : World) (h1 : isN x = false) (h2 : isN y = false) (hi0 : ¬ rung x = 9218868437227405312) (hz0 : ¬ rung y = 0) (h : rung y = 9218868437227405312 ∨ rung x = 0) :
  Calls Tryz.prog 96 #[.float .f64 x, .float .f64 y] w (FRetF (modS x y) w) := by
 have HEND : Hid (cn x = modS x y) := qh (by
  unfold modS
  rw [if_neg (by rw [h1, h2]; simp; exact ⟨hi0, hz0⟩), if_pos h, cn_of_notN h1])
 have hz : (FloatKind.f64.format.order y 0 == some .eq) = false := by rw [show (FloatKind.f64.format.order y 0 == some .eq) = decide (rung y = 0) from feq0_rung]; exact decide_eq_false hz0
 have hi : finf (cn x) = false := by rw [finf_rung]; exact decide_eq_false hi0
 have hiy : finf (cn y) = decide (rung y = 9218868437227405312) := finf_rung
 have hzx : (FloatKind.f64.format.order x 0 == some .eq) = decide (rung x = 0) := feq0_rung
 by_cases h3 : rung y = 9218868437227405312
 ·rw [decide_eq_true h3] at hiy
  clear h h3 hzx hi0 hz0
  go_enter Tryz.func96, Tryz.ntmps96
  go_wp2_with (first | (go_at_call 126; refine (bad_any _ _).mono ?_; rintro e w' ⟨rfl, rfl⟩; first | rw [h1] | rw [h2]) | (go_at_call 127; refine (endless_any _ _).mono ?_; rintro e w' ⟨rfl, rfl⟩; first | rw [hi] | rw [hiy]) | (go_at_call 128; refine (refnan_any _).mono ?_; rintro e w' ⟨rfl, rfl⟩))
  go_ret
  exact ⟨_, 0, rfl, HEND.out, rfl⟩
 ·rw [decide_eq_false h3] at hiy
  have h4 : rung x = 0 := by simpa [h3] using h
  rw [decide_eq_true h4] at hzx
  clear h h3 h4 hi0 hz0
  go_enter Tryz.func96, Tryz.ntmps96
  go_wp2_with (first | (go_at_call 126; refine (bad_any _ _).mono ?_; rintro e w' ⟨rfl, rfl⟩; first | rw [h1] | rw [h2]) | (go_at_call 127; refine (endless_any _ _).mono ?_; rintro e w' ⟨rfl, rfl⟩; first | rw [hi] | rw [hiy]) | (go_at_call 128; refine (refnan_any _).mono ?_; rintro e w' ⟨rfl, rfl⟩))
  go_ret
  exact ⟨_, 0, rfl, HEND.out, rfl⟩
theorem rmod_any (x y : Nat) (w : World) (hx : W64 x) (hy : W64 y) : Calls Tryz.prog 96 #[.float .f64 x, .float .f64 y] w (FRetF (modS x y) w) := by
 by_cases h : rung y = 0 ∨ rung x = 9218868437227405312 ∨ isN x = true ∨ isN y = true
 ·exact rmod_none x y w h
 have h1 : isN x = false := by cases e : isN x <;> simp_all
 have h2 : isN y = false := by cases e : isN y <;> simp_all
 have h3 : ¬ rung y = 0 := fun e => h (.inl e)
 have h4 : ¬ rung x = 9218868437227405312 := fun e => h (.inr (.inl e))
 have h5 : rung x ≤ 9218868437227405312 := Nat.le_of_not_lt fun e => by rw [rung_nan.2 e] at h1; cases h1
 have h6 : rung y ≤ 9218868437227405312 := Nat.le_of_not_lt fun e => by rw [rung_nan.2 e] at h2; cases h2
 have x64 : x < 18446744073709551616 := by unfold W64 at hx; rwa [cn_of_notN h1] at hx
 have y64 : y < 18446744073709551616 := by unfold W64 at hy; rwa [cn_of_notN h2] at hy
 by_cases h7 : rung y = 9218868437227405312 ∨ rung x = 0
 ·exact rmod_still x y w h1 h2 h4 h3 h7
 ·exact rmod_fin x y w x64 y64 (by omega) (by omega) (by omega) (by omega)
end Go.Proofs.YtmmfjknnbkcniaaGreatDoor
