/- math.Floor. math.Mod and calc.Mod: what is left of a number by another, as whole numbers say it. -/
import Derived.Test.YtmmfjknnbkcniaaGreatDoorV11
import Derived.Test.YtmmfjknnbkcniaaGreatDoorV02
import Derived.Test.YtmmfjknnbkcniaaGreatDoorProg
import Derived.KernelRfl
import Derived.Lib.Hide
import Derived.Laws.Externs
import Derived.Test.YtmmfjknnbkcniaaGreatDoorV14
set_option maxHeartbeats 64000000
set_option maxRecDepth 100000
namespace Go.Proofs.YtmmfjknnbkcniaaGreatDoor
open Go.Fl Go.Rel Go.RowKit
theorem floor_ext (x : Nat) (w : World) : (callFunc 140 #[.float .f64 x]).run Tryz.prog w = ((Extern.MathFloor.toIntegral "math.archFloor" .down #[.float .f64 x]).run Tryz.prog w).andThen fun v w' => .ok (.value v) w' :=
 run_callFunc_extern Tryz.func140 (by kernel_rfl) rfl (by kernel_rfl) (by kernel_rfl) _ w
theorem floor_def (x : Nat) : Extern.MathFloor.toIntegral "math.archFloor" .down #[.float .f64 x] = (match FloatKind.f64.decode x with
  | .nan s t =>
   if FloatKind.f64.format.quiet t = t then pure (.float .f64 x) else do
   let kept ← choose (.extern "math.Floor,Ceil,Trunc,RoundToEven.signallingNaN kept" 2)
   pure (.float .f64 (if kept == 1 then x else FloatKind.f64.encode (.nan s (FloatKind.f64.format.quiet t))))
  | d => pure (.float .f64 (FloatKind.f64.encode (d.integral .down)))) := rfl
theorem quiet_isN (s : Bool) (t : Nat) (hlt : t < 4503599627370496) : isN (Ieee.double.write (.nan s (Ieee.double.quiet t))) = true := by
 have hq : Ieee.double.quiet t = t ||| 2 ^ 51 := rfl
 have h1 : t ||| 2 ^ 51 < 2 ^ 52 := Nat.or_lt_two_pow (by omega) (by decide)
 have h2 : 2 ^ 51 ≤ t ||| 2 ^ 51 := Nat.right_le_or
 rw [hq]
 generalize t ||| 2 ^ 51 = q at h1 h2
 show isN (Ieee.double.word s (Ieee.double.infRung + q % Ieee.double.binade)) = true
 rw [word_eq, infRung_eq, binade_eq, Nat.mod_eq_of_lt (by omega)]
 unfold isN Ieee.Format.read
 dsimp only
 rw [sw_eq, binade_eq, infRung_eq]
 have hm : (if s = true then 9223372036854775808 + (9218868437227405312 + q) else 9218868437227405312 + q) % 9223372036854775808 = 9218868437227405312 + q := by
  cases s <;> simp <;> omega
 rw [hm, if_neg (by omega), if_neg (by omega), if_neg (by omega)]
 rfl
theorem read_nan_frac {x : Nat} {s : Bool} {t : Nat} (h : Ieee.double.read x = .nan s t) : 0 < t ∧ t < 4503599627370496 := by
 unfold Ieee.Format.read at h
 dsimp only at h
 rw [sw_eq, binade_eq, infRung_eq] at h
 have := Nat.mod_lt x (show 0 < 9223372036854775808 by omega)
 split at h
 ·cases h
 ·split at h
  ·cases h
  ·split at h
   ·cases h
   ·injection h with h1 h2
    omega
theorem floor_run (x : Nat) (w : World) : ∃ r n, (callFunc 140 #[.float .f64 x]).run Tryz.prog w = .ok (.value (.float .f64 r)) (w.drewN n) ∧ cn r = ffloor (cn x) := by
 rw [floor_ext, floor_def, ffloor_cn]
 have hdec : FloatKind.f64.decode x = Ieee.double.read x := rfl
 cases hr : Ieee.double.read x with
 | nan s t =>
  have hN : isN x = true := by unfold isN; rw [hr]; rfl
  rw [hdec, hr]
  dsimp only
  have hff : ffloor x = nanc := by unfold ffloor; rw [hN]; rfl
  by_cases hq : FloatKind.f64.format.quiet t = t
  ·refine ⟨x, 0, ?_, ?_⟩
   ·rw [if_pos hq]; simp [Result.andThen, World.drewN]
   ·rw [cn_of_N hN, hff]
  ·refine ⟨if (Question.cut (.extern "math.Floor,Ceil,Trunc,RoundToEven.signallingNaN kept" 2) (w.tape w.drawn (.extern "math.Floor,Ceil,Trunc,RoundToEven.signallingNaN kept" 2))) == 1 then x else FloatKind.f64.encode (.nan s (FloatKind.f64.format.quiet t)), 1, ?_, ?_⟩
   ·have hf : Question.forced (.extern "math.Floor,Ceil,Trunc,RoundToEven.signallingNaN kept" 2) = false := rfl
    rw [if_neg hq]
    simp [choose, Sem.run, Result.andThen, Question.forced, World.drewN]
   ·rw [hff]
    refine cn_of_N ?_
    split
    ·exact hN
    ·exact quiet_isN s t (read_nan_frac hr).2
 | number s m p =>
  have hN : isN x = false := by unfold isN; rw [hr]; rfl
  refine ⟨ffloor x, 0, ?_, ?_⟩
  ·rw [hdec, hr]; unfold ffloor; rw [hN, hr]; simp [Result.andThen, World.drewN]; rfl
  ·unfold ffloor; rw [hN, hr, if_neg (by simp)]; exact cn_of_notN (write_not_nan _ rfl)
 | infinity s =>
  have hN : isN x = false := by unfold isN; rw [hr]; rfl
  refine ⟨ffloor x, 0, ?_, ?_⟩
  ·rw [hdec, hr]; unfold ffloor; rw [hN, hr]; simp [Result.andThen, World.drewN]; rfl
  ·unfold ffloor; rw [hN, hr, if_neg (by simp)]; exact cn_of_notN (write_not_nan _ rfl)
def FRetF (s : Nat) (w : World) (e : Ending) (w' : World) : Prop := ∃ r n, e = .returned (.float .f64 r) ∧ cn r = s ∧ w' = w.drewN n
theorem floor_any (x : Nat) (w : World) : Calls Tryz.prog 112 #[.float .f64 x] w (FRetF (ffloor (cn x)) w) := by
 obtain ⟨r, n, hr, hc⟩ := floor_run x w
 have Hc := qh hc
 clear hc
 go_enter Tryz.func112, Tryz.ntmps112
 go_wp2_with (simp only [hr])
 go_ret
 exact ⟨r, n, rfl, Hc.out, rfl⟩
end Go.Proofs.YtmmfjknnbkcniaaGreatDoor
namespace Go.Fl
open Ieee
theorem flt_pl {x y : Nat} (hx : isN x = false) (hy : isN y = false) : (ford x y == some .lt) = decide (pl x < pl y) := by
 rw [ford_pl hx hy]
 by_cases h : pl x < pl y
 ·rw [Std.compare_eq_lt.2 h, decide_eq_true h]; rfl
 ·rw [decide_eq_false h]
  have h2 : compare (pl x) (pl y) ≠ .lt := fun h3 => h (Std.compare_eq_lt.1 h3)
  revert h2
  generalize compare (pl x) (pl y) = o
  cases o <;> simp
theorem fgt_pl {x y : Nat} (hx : isN x = false) (hy : isN y = false) : (ford x y == some .gt) = decide (pl y < pl x) := by
 rw [ford_pl hx hy]
 by_cases h : pl y < pl x
 ·rw [Std.compare_eq_gt.2 h, decide_eq_true h]; rfl
 ·rw [decide_eq_false h]
  have h2 : compare (pl x) (pl y) ≠ .gt := fun h3 => h (Std.compare_eq_gt.1 h3)
  revert h2
  generalize compare (pl x) (pl y) = o
  cases o <;> simp
theorem feq_pl {x y : Nat} (hx : isN x = false) (hy : isN y = false) : (ford x y == some .eq) = decide (pl x = pl y) := by
 rw [ford_pl hx hy]
 by_cases h : pl x = pl y
 ·rw [Std.compare_eq_iff_eq.2 h, decide_eq_true h]; rfl
 ·rw [decide_eq_false h]
  have h2 : compare (pl x) (pl y) ≠ .eq := fun h3 => h (Std.compare_eq_iff_eq.1 h3)
  revert h2
  generalize compare (pl x) (pl y) = o
  cases o <;> simp
theorem fge_pl {x y : Nat} (hx : isN x = false) (hy : isN y = false) : (ford x y == some .gt || ford x y == some .eq) = decide (pl y ≤ pl x) := by
 rw [fgt_pl hx hy, feq_pl hx hy, Bool.eq_iff_iff]
 simp only [Bool.or_eq_true, decide_eq_true_eq]
 omega
theorem ford_nan1 {x y : Nat} (hx : isN x = true) : ford x y = none := by
 have h := ford_cn x y
 rw [cn_of_N hx] at h
 rw [← h]
 unfold ford Format.order
 rw [show double.read nanc = .nan false 2251799813685249 by decide +kernel]
 rfl
theorem pl_pos {r : Nat} (h : r ≤ 9218868437227405312) : pl r = (r : Int) := by
 unfold pl
 rw [show isN r = false by rw [isN_iff]; exact decide_eq_false (by rw [rung_small (by omega)]; omega), if_neg (by simp), sgn_small (by omega), if_neg (by simp), rung_small (by omega)]
theorem neg_pos {q : Nat} (h : q < 9223372036854775808) : Op.negFloat .f64 q = double.word true q := by
 have e : double.word true q = 2 ^ 63 * 1 + q := by rw [word_eq]; simp
 rw [e]
 unfold Op.negFloat
 rw [show 2 ^ (FloatKind.f64.format.exponentBits + FloatKind.f64.format.fractionBits) = 2 ^ 63 from rfl]
 apply Nat.eq_of_testBit_eq
 intro i
 rw [Nat.testBit_xor, Nat.testBit_two_pow_mul_add 1 (by omega : q < 2 ^ 63), Nat.testBit_two_pow]
 by_cases hi : i < 63
 ·rw [if_pos hi]; simp [show ¬ 63 = i by omega]
 ·rw [if_neg hi]
  have h0 : q.testBit i = false := Nat.testBit_lt_two_pow (Nat.lt_of_lt_of_le (show q < 2 ^ 63 from h) (Nat.pow_le_pow_right (by omega) (by omega)))
  rw [h0]
  by_cases h63 : i = 63
  ·subst h63; decide
  ·have : (1 : Nat).testBit (i - 63) = false := Nat.testBit_lt_two_pow (Nat.lt_of_lt_of_le (show 1 < 2 ^ 1 by decide) (Nat.pow_le_pow_right (by omega) (by omega)))
   rw [this]; simp [show ¬ 63 = i by omega]
theorem neg_big {q : Nat} (h : q < 9223372036854775808) : Op.negFloat .f64 (double.word true q) = q := by
 rw [← neg_pos h]
 unfold Op.negFloat
 rw [Nat.xor_assoc, Nat.xor_self, Nat.xor_zero]
theorem rung_nan {x : Nat} : isN x = true ↔ 9218868437227405312 < rung x := by rw [isN_iff]; exact decide_eq_true_iff
end Go.Fl
namespace Go.Proofs.YtmmfjknnbkcniaaGreatDoor
open Go.Fl Go.Rel Go.RowKit
set_option linter.unusedSimpArgs false
set_option linter.unusedVariables false
theorem feq0_rung {y : Nat} : (ford y 0 == some .eq) = decide (rung y = 0) := by
 by_cases hN : isN y = true
 ·rw [ford_nan1 hN, decide_eq_false (by have := rung_nan.1 hN; omega)]; rfl
 ·have hN' : isN y = false := by cases h : isN y <;> simp_all
  rw [feq_pl hN' (by decide +kernel), show pl 0 = 0 by decide +kernel]
  unfold pl
  rw [hN']
  simp only [Bool.false_eq_true, if_false]
  rw [Bool.eq_iff_iff]
  simp only [decide_eq_true_eq]
  split <;> omega
theorem finf_rung {x : Nat} : finf (cn x) = decide (rung x = 9218868437227405312) := by
 by_cases hN : isN x = true
 ·rw [cn_of_N hN, show finf nanc = false by decide +kernel, decide_eq_false (by have := rung_nan.1 hN; omega)]
 ·have hN' : isN x = false := by cases h : isN x <;> simp_all
  have hr : ¬ 9218868437227405312 < rung x := fun h => hN (rung_nan.2 h)
  rw [cn_of_notN hN']
  unfold finf fabs
  rw [hN']
  simp only [Bool.false_eq_true, if_false]
  rw [show x % top = rung x from rfl]
  have hlt := rung_lt_sw x
  have hNr : isN (rung x) = false := by
   rw [isN_iff]; refine decide_eq_false ?_; rw [rung_small (by omega)]; omega
  rw [fgt_pl hNr (by decide +kernel), pl_pos (r := rung x) (by omega), pl_pos (r := 9218868437227405311) (by omega), Bool.eq_iff_iff]
  simp only [decide_eq_true_eq]
  omega
def fltOf : Value → Nat | .float _ b => b | _ => 0
def ModRel (X Y : Nat) (w : World) (v : Value) (wr : World) : Prop :=
 ∃ r n, v = .float .f64 r ∧ r < 9218868437227405312 ∧ unitsOf r % Y = X % Y ∧ wr = w.drewN n
theorem mod_end {x q y r : Nat} {neg : Bool} (hx : x = Ieee.double.word neg q) (h0 : neg = true → 0 < q) (hq : q < 9218868437227405312) (hy : isN y = false) (hy0 : 0 < rung y) (hy1 : rung y < 9218868437227405312)
  (hr1 : r < 9218868437227405312) (hr2 : unitsOf r % unitsOf (rung y) = unitsOf q % unitsOf (rung y)) (hlt : r < rung y) :
  cn (if neg = true then Op.negFloat .f64 r else r) = modS x y := by
 have hs : sgn x = neg := by rw [hx]; exact sgn_word neg (by omega)
 have hrx : rung x = q := by rw [hx]; exact rung_word neg (by omega)
 have hNx : isN x = false := by rw [hx]; exact notN_word neg (by omega)
 have hcond : ¬ (isN x = true ∨ isN y = true ∨ rung x = 9218868437227405312 ∨ rung y = 0) := by
  rw [hNx, hy, hrx]; simp; omega
 have hY : 0 < unitsOf (rung y) := unitsOf_pos.2 hy0
 have hu : unitsOf r < unitsOf (rung y) := unitsOf_lt hlt
 rw [Nat.mod_eq_of_lt hu] at hr2
 unfold modS
 rw [if_neg hcond]
 by_cases hq0 : q = 0
 ·rw [if_pos (c := rung y = 9218868437227405312 ∨ rung x = 0) (Or.inr (by rw [hrx]; exact hq0))]
  have hr0 : r = 0 := by
   have e0 : unitsOf 0 = 0 := by decide
   rw [hq0, e0, Nat.zero_mod] at hr2
   exact unitsOf_inj (by rw [hr2, e0])
  cases neg
  ·rw [hr0, hx, hq0]; decide +kernel
  ·have := h0 rfl; omega
 ·rw [if_neg (c := rung y = 9218868437227405312 ∨ rung x = 0) (by rw [hrx]; omega), hrx, modW_of hr1 hr2, hs]
  cases neg
  ·rw [if_neg (by simp), cn_small hr1, word_eq]; rfl
  ·rw [if_pos rfl, neg_pos (by omega), cn_of_notN (notN_word true (by omega))]
theorem mod_fin (x y q : Nat) (neg : Bool) (w : World) (hx : x = Ieee.double.word neg q) (h0 : neg = true → 0 < q) (hq : q < 9218868437227405312) (hy : isN y = false) (hy0 : 0 < rung y) (hy1 : rung y < 9218868437227405312) :
  Calls Tryz.prog 107 #[.float .f64 x, .float .f64 y] w (FRetF (modS x y) w) := by
 have HEND := qh (fun r => mod_end (r := r) hx h0 hq hy hy0 hy1)
 have hrx : rung x = q := by rw [hx]; exact rung_word neg (by omega)
 have hNx : isN x = false := by rw [hx]; exact notN_word neg (by omega)
 have hz : (FloatKind.f64.format.order y 0 == some .eq) = false := by rw [show (FloatKind.f64.format.order y 0 == some .eq) = decide (rung y = 0) from feq0_rung]; exact decide_eq_false (by omega)
 have hi : finf (cn x) = false := by rw [finf_rung]; exact decide_eq_false (by omega)
 obtain ⟨yy, hyy⟩ : ∃ yy, yy = rung y := ⟨_, rfl⟩
 have htop : y % top = yy := by rw [hyy]; rfl
 rw [← hyy] at hy0 hy1 HEND
 have HY0 := qh hy0
 have HY1 := qh hy1
 have HQ := qh hq
 cases neg
 ·have hxq : x = q := by rw [hx, word_eq]; rfl
  clear hx h0 hrx
  subst hxq
  have hlt : (FloatKind.f64.format.order x 0 == some .lt) = false := by rw [show (FloatKind.f64.format.order x 0 == some .lt) = decide (x < 0) from flt_small (by omega) (by omega)]; exact decide_eq_false (by omega)
  clear hyy hy0 hy1 hq
  go_enter Tryz.func107, Tryz.ntmps107
  go_wp2_with (first | (go_at_call 109; refine (isinf_any _ _).mono ?_; rintro e w' ⟨rfl, rfl⟩; rw [hi]) | (go_at_call 75; refine (isnan_any _ _).mono ?_; rintro e w' ⟨rfl, rfl⟩; first | rw [hNx] | rw [hy]) | (go_at_call 79; refine (abs_any _ _).mono ?_; rintro e w' ⟨rfl, rfl⟩; rw [htop]))
  go_at_call 138
  refine (frexp_any _ _ HY0.out HY1.out).mono ?_
  rintro e w' ⟨ly, LY, ny, rfl, hfy, hLY, rfl⟩
  obtain ⟨yf, hyf⟩ : ∃ yf, yf = 1022 * 4503599627370496 + ly := ⟨_, rfl⟩
  obtain ⟨ye, hye⟩ : ∃ ye, (LY : Int) - 1073 = ye := ⟨_, rfl⟩
  rw [← hyf, hye]
  have HFY := qh hfy
  have HYF := qh hyf
  have HYE := qh hye
  have y1 : -1073 ≤ ye := by omega
  have y2 : ye ≤ 1024 := by omega
  clear hfy hyf hye hLY
  go_wp2_with fail
  go_loopw [7] (ModRel (unitsOf x) (unitsOf yy) w) (fun v _ => unitsOf (fltOf v))
  case atStart => exact ⟨x, _, rfl, HQ.out, rfl, by first | rfl | (simp only [World.drewN_drewN]; rfl)⟩
  case round =>
   obtain ⟨r, n, rfl, hr1, hr2, rfl⟩ := hrel
   have hgeq : (FloatKind.f64.format.order r yy == some .gt || FloatKind.f64.format.order r yy == some .eq) = decide (yy ≤ r) := fge_small (by omega) (by have := HY1.out; omega)
   by_cases hge : yy ≤ r
   ·rw [decide_eq_true hge] at hgeq
    have hr0 : 0 < r := by have := HY0.out; omega
    have HMS := qh (fun lr LR hfr => mod_step (R := unitsOf r) (lx := lr) (LX := LR) ⟨r, hr1, rfl⟩ ⟨yy, HY1.out, rfl⟩ (unitsOf_pos.2 HY0.out) hfr HFY.out (unitsOf_le hge))
    have HRC := qh (cn_small hr1)
    have HR1 := qh hr1
    have HR2 := qh hr2
    have HR0 := qh hr0
    clear hr1 hr2 hge hr0
    go_wp2_with fail
    go_at_call 138
    refine (frexp_any r _ HR0.out HR1.out).mono ?_
    rintro e w' ⟨lr, LR, nr, rfl, hfr, hLR, rfl⟩
    obtain ⟨k, s, t, hk, s1, s2, s3, t1, t2, t3, t4⟩ := HMS.out lr LR hfr
    obtain ⟨rf, hrf⟩ : ∃ rf, rf = 1022 * 4503599627370496 + lr := ⟨_, rfl⟩
    obtain ⟨re, hre⟩ : ∃ re, (LR : Int) - 1073 = re := ⟨_, rfl⟩
    rw [← hrf, hre]
    have hLt : (FloatKind.f64.format.order rf yf == some .lt) = decide (rf < yf) := flt_small (by have := hfr.1; omega) (by have := HYF.out; have := HFY.out.1; omega)
    have re1 : -1073 ≤ re := by omega
    have re2 : re ≤ 1024 := by omega
    have HT1 := qh t1
    have HT3 : Hid (unitsOf t % unitsOf yy = unitsOf x % unitsOf yy) := qh (t3.trans HR2.out)
    have HT4 := qh t4
    have HSUB : Hid (fsub (cn r) (cn s) = t) := qh (by rw [HRC.out, cn_small s1]; exact sub_units HR1.out s1 t1 (by rw [s2]; exact s3) (by rw [t2, s2]))
    have HLD := qh (fun w => ldexp_any yy s k w HY0.out HY1.out s1 s2)
    by_cases hd : lr < ly
    ·rw [decide_eq_true (by have := HYF.out; omega)] at hLt
     rw [decide_eq_true hd] at hk
     have hk1 : re - 1 - ye = (k : Int) := by have := HYE.out; simp at hk; omega
     clear hfr hk s1 s2 s3 t1 t2 t3 t4 hrf hre hd hLR
     go_wp2_with (first | (go_at_call 139; refine (HLD.out _).mono ?_; rintro e w' ⟨n3, rfl, rfl⟩) | (refine wpList_fop .sub _ _ _ _ r s rfl rfl rfl ?_; intro t' nt ht; have ht2 : t' = t := eq_of_cn (c := t) (by rw [ht]; exact HSUB.out) (isF_notN (isF_small HT1.out)); subst ht2; clear ht))
     go_roundw
     case rel => exact ⟨_, _, rfl, HT1.out, HT3.out, by first | rfl | (simp only [World.drewN_drewN]; rfl)⟩
     case measure => exact HT4.out
    ·rw [decide_eq_false (by have := HYF.out; omega)] at hLt
     rw [decide_eq_false hd] at hk
     have hk1 : re - ye = (k : Int) := by have := HYE.out; simp at hk; omega
     clear hfr hk s1 s2 s3 t1 t2 t3 t4 hrf hre hd hLR
     go_wp2_with (first | (go_at_call 139; refine (HLD.out _).mono ?_; rintro e w' ⟨n3, rfl, rfl⟩) | (refine wpList_fop .sub _ _ _ _ r s rfl rfl rfl ?_; intro t' nt ht; have ht2 : t' = t := eq_of_cn (c := t) (by rw [ht]; exact HSUB.out) (isF_notN (isF_small HT1.out)); subst ht2; clear ht))
     go_roundw
     case rel => exact ⟨_, _, rfl, HT1.out, HT3.out, by first | rfl | (simp only [World.drewN_drewN]; rfl)⟩
     case measure => exact HT4.out
   ·rw [decide_eq_false hge] at hgeq
    have HE := qh (HEND.out r hr1 hr2 (by omega))
    clear hr1 hr2 hge
    go_wp2_with fail
    go_ret
    exact ⟨_, _, rfl, HE.out, by first | rfl | (simp only [World.drewN_drewN]; rfl)⟩
 ·have hlt : (FloatKind.f64.format.order x 0 == some .lt) = true := by
   rw [show (FloatKind.f64.format.order x 0 == some .lt) = decide (pl x < pl 0) from flt_pl hNx (by decide +kernel), show pl 0 = 0 by decide +kernel]
   have h1 := h0 rfl
   have hs : sgn x = true := by rw [hx]; exact sgn_word true (by omega)
   unfold pl
   rw [hNx, if_neg (by simp), hs, if_pos rfl]
   exact decide_eq_true (by omega)
  have hng : ∀ w, (Op.unary UnOp.neg (.float .f64 x)).run Tryz.prog w = .ok (.float .f64 q) w := fun w => by rw [← show Op.negFloat .f64 x = q by rw [hx]; exact neg_big (by omega)]; rfl
  clear hx h0 hrx
  clear hyy hy0 hy1 hq
  go_enter Tryz.func107, Tryz.ntmps107
  go_wp2_with (first | (go_at_call 109; refine (isinf_any _ _).mono ?_; rintro e w' ⟨rfl, rfl⟩; rw [hi]) | (go_at_call 75; refine (isnan_any _ _).mono ?_; rintro e w' ⟨rfl, rfl⟩; first | rw [hNx] | rw [hy]) | (go_at_call 79; refine (abs_any _ _).mono ?_; rintro e w' ⟨rfl, rfl⟩; rw [htop]))
  go_at_call 138
  refine (frexp_any _ _ HY0.out HY1.out).mono ?_
  rintro e w' ⟨ly, LY, ny, rfl, hfy, hLY, rfl⟩
  obtain ⟨yf, hyf⟩ : ∃ yf, yf = 1022 * 4503599627370496 + ly := ⟨_, rfl⟩
  obtain ⟨ye, hye⟩ : ∃ ye, (LY : Int) - 1073 = ye := ⟨_, rfl⟩
  rw [← hyf, hye]
  have HFY := qh hfy
  have HYF := qh hyf
  have HYE := qh hye
  have y1 : -1073 ≤ ye := by omega
  have y2 : ye ≤ 1024 := by omega
  clear hfy hyf hye hLY
  go_wp2_with (simp only [hng])
  go_loopw [7] (ModRel (unitsOf q) (unitsOf yy) w) (fun v _ => unitsOf (fltOf v))
  case atStart => exact ⟨q, _, rfl, HQ.out, rfl, by first | rfl | (simp only [World.drewN_drewN]; rfl)⟩
  case round =>
   obtain ⟨r, n, rfl, hr1, hr2, rfl⟩ := hrel
   have hgeq : (FloatKind.f64.format.order r yy == some .gt || FloatKind.f64.format.order r yy == some .eq) = decide (yy ≤ r) := fge_small (by omega) (by have := HY1.out; omega)
   by_cases hge : yy ≤ r
   ·rw [decide_eq_true hge] at hgeq
    have hr0 : 0 < r := by have := HY0.out; omega
    have HMS := qh (fun lr LR hfr => mod_step (R := unitsOf r) (lx := lr) (LX := LR) ⟨r, hr1, rfl⟩ ⟨yy, HY1.out, rfl⟩ (unitsOf_pos.2 HY0.out) hfr HFY.out (unitsOf_le hge))
    have HRC := qh (cn_small hr1)
    have HR1 := qh hr1
    have HR2 := qh hr2
    have HR0 := qh hr0
    clear hr1 hr2 hge hr0
    go_wp2_with fail
    go_at_call 138
    refine (frexp_any r _ HR0.out HR1.out).mono ?_
    rintro e w' ⟨lr, LR, nr, rfl, hfr, hLR, rfl⟩
    obtain ⟨k, s, t, hk, s1, s2, s3, t1, t2, t3, t4⟩ := HMS.out lr LR hfr
    obtain ⟨rf, hrf⟩ : ∃ rf, rf = 1022 * 4503599627370496 + lr := ⟨_, rfl⟩
    obtain ⟨re, hre⟩ : ∃ re, (LR : Int) - 1073 = re := ⟨_, rfl⟩
    rw [← hrf, hre]
    have hLt : (FloatKind.f64.format.order rf yf == some .lt) = decide (rf < yf) := flt_small (by have := hfr.1; omega) (by have := HYF.out; have := HFY.out.1; omega)
    have re1 : -1073 ≤ re := by omega
    have re2 : re ≤ 1024 := by omega
    have HT1 := qh t1
    have HT3 : Hid (unitsOf t % unitsOf yy = unitsOf q % unitsOf yy) := qh (t3.trans HR2.out)
    have HT4 := qh t4
    have HSUB : Hid (fsub (cn r) (cn s) = t) := qh (by rw [HRC.out, cn_small s1]; exact sub_units HR1.out s1 t1 (by rw [s2]; exact s3) (by rw [t2, s2]))
    have HLD := qh (fun w => ldexp_any yy s k w HY0.out HY1.out s1 s2)
    by_cases hd : lr < ly
    ·rw [decide_eq_true (by have := HYF.out; omega)] at hLt
     rw [decide_eq_true hd] at hk
     have hk1 : re - 1 - ye = (k : Int) := by have := HYE.out; simp at hk; omega
     clear hfr hk s1 s2 s3 t1 t2 t3 t4 hrf hre hd hLR
     go_wp2_with (first | (go_at_call 139; refine (HLD.out _).mono ?_; rintro e w' ⟨n3, rfl, rfl⟩) | (refine wpList_fop .sub _ _ _ _ r s rfl rfl rfl ?_; intro t' nt ht; have ht2 : t' = t := eq_of_cn (c := t) (by rw [ht]; exact HSUB.out) (isF_notN (isF_small HT1.out)); subst ht2; clear ht))
     go_roundw
     case rel => exact ⟨_, _, rfl, HT1.out, HT3.out, by first | rfl | (simp only [World.drewN_drewN]; rfl)⟩
     case measure => exact HT4.out
    ·rw [decide_eq_false (by have := HYF.out; omega)] at hLt
     rw [decide_eq_false hd] at hk
     have hk1 : re - ye = (k : Int) := by have := HYE.out; simp at hk; omega
     clear hfr hk s1 s2 s3 t1 t2 t3 t4 hrf hre hd hLR
     go_wp2_with (first | (go_at_call 139; refine (HLD.out _).mono ?_; rintro e w' ⟨n3, rfl, rfl⟩) | (refine wpList_fop .sub _ _ _ _ r s rfl rfl rfl ?_; intro t' nt ht; have ht2 : t' = t := eq_of_cn (c := t) (by rw [ht]; exact HSUB.out) (isF_notN (isF_small HT1.out)); subst ht2; clear ht))
     go_roundw
     case rel => exact ⟨_, _, rfl, HT1.out, HT3.out, by first | rfl | (simp only [World.drewN_drewN]; rfl)⟩
     case measure => exact HT4.out
   ·rw [decide_eq_false hge] at hgeq
    have HE := qh (HEND.out r hr1 hr2 (by omega))
    have hng2 : ∀ w, (Op.unary UnOp.neg (.float .f64 r)).run Tryz.prog w = .ok (.float .f64 (Op.negFloat .f64 r)) w := fun w => rfl
    clear hr1 hr2 hge
    go_wp2_with (simp only [hng2])
    go_ret
    exact ⟨_, _, rfl, by simpa using HE.out, by first | rfl | (simp only [World.drewN_drewN]; rfl)⟩
def StillRel (r : Nat) (w : World) (v : Value) (wr : World) : Prop := v = .float .f64 r ∧ ∃ n, wr = w.drewN n
theorem still_end {x q y : Nat} {neg : Bool} (hx : x = Ieee.double.word neg q) (hq : q < 9218868437227405312) (hy : isN y = false) (hy0 : 0 < rung y) (h : rung y = 9218868437227405312 ∨ q = 0) : cn x = modS x y := by
 have hrx : rung x = q := by rw [hx]; exact rung_word neg (by omega)
 have hNx : isN x = false := by rw [hx]; exact notN_word neg (by omega)
 unfold modS
 rw [if_neg (by rw [hNx, hy, hrx]; simp; omega), if_pos (by rw [hrx]; exact h), cn_of_notN hNx]
theorem pl_word {q : Nat} (neg : Bool) (hq : q < 9218868437227405312) : pl (Ieee.double.word neg q) = if neg then -(q : Int) else q := by
 unfold pl
 rw [notN_word neg (by omega), sgn_word neg (by omega), rung_word neg (by omega)]
 simp
theorem mod_inf (x y q : Nat) (neg : Bool) (w : World) (hx : x = Ieee.double.word neg q) (hq : q < 9218868437227405312) (hy : isN y = false) (hy1 : rung y = 9218868437227405312) :
  Calls Tryz.prog 107 #[.float .f64 x, .float .f64 y] w (FRetF (modS x y) w) := by
 have HEND := qh (still_end hx hq hy (by omega) (.inl hy1))
 have hrx : rung x = q := by rw [hx]; exact rung_word neg (by omega)
 have hNx : isN x = false := by rw [hx]; exact notN_word neg (by omega)
 have hz : (FloatKind.f64.format.order y 0 == some .eq) = false := by rw [show (FloatKind.f64.format.order y 0 == some .eq) = decide (rung y = 0) from feq0_rung]; exact decide_eq_false (by omega)
 have hi : finf (cn x) = false := by rw [finf_rung]; exact decide_eq_false (by omega)
 have htop : y % top = pinf := hy1
 have hpx : pl x = if neg then -(q : Int) else q := by rw [hx]; exact pl_word neg hq
 by_cases hlt0 : pl x < 0
 ·have hlt : (FloatKind.f64.format.order x 0 == some .lt) = true := by
   rw [show (FloatKind.f64.format.order x 0 == some .lt) = decide (pl x < pl 0) from flt_pl hNx (by decide +kernel), show pl 0 = 0 by decide +kernel]; exact decide_eq_true hlt0
  have hng : neg = true := by cases neg <;> simp at hpx ⊢; omega
  subst hng
  have hng : ∀ w, (Op.unary UnOp.neg (.float .f64 x)).run Tryz.prog w = .ok (.float .f64 q) w := fun w => by rw [← show Op.negFloat .f64 x = q by rw [hx]; exact neg_big (by omega)]; rfl
  have hng2 : ∀ w, (Op.unary UnOp.neg (.float .f64 q)).run Tryz.prog w = .ok (.float .f64 x) w := fun w => by rw [hx, ← neg_pos (by omega : q < 9223372036854775808)]; rfl
  have hge : (FloatKind.f64.format.order q pinf == some .gt || FloatKind.f64.format.order q pinf == some .eq) = false := by
   rw [show (FloatKind.f64.format.order q pinf == some .gt || FloatKind.f64.format.order q pinf == some .eq) = decide (pl pinf ≤ pl q) from fge_pl (isF_notN (isF_small hq)) (by decide +kernel), pl_pos (r := pinf) (by decide), pl_pos (by omega)]
   exact decide_eq_false (by unfold pinf; omega)
  clear hx hrx hy1 hq hpx hlt0
  go_enter Tryz.func107, Tryz.ntmps107
  go_wp2_with (first | (go_at_call 109; refine (isinf_any _ _).mono ?_; rintro e w' ⟨rfl, rfl⟩; rw [hi]) | (go_at_call 75; refine (isnan_any _ _).mono ?_; rintro e w' ⟨rfl, rfl⟩; first | rw [hNx] | rw [hy]) | (go_at_call 79; refine (abs_any _ _).mono ?_; rintro e w' ⟨rfl, rfl⟩; rw [htop]) | (go_at_call 138; refine (frexp_inf _).mono ?_; rintro e w' ⟨rfl, rfl⟩) | simp only [hng])
  go_loopw [7] (StillRel q w) (fun v _ => 0)
  case atStart => exact ⟨rfl, 0, rfl⟩
  case round =>
   obtain ⟨rfl, n, rfl⟩ := hrel
   go_wp2_with (simp only [hng2])
   go_ret
   exact ⟨_, _, rfl, HEND.out, by first | rfl | (simp only [World.drewN_drewN]; rfl)⟩
 ·have hlt : (FloatKind.f64.format.order x 0 == some .lt) = false := by
   rw [show (FloatKind.f64.format.order x 0 == some .lt) = decide (pl x < pl 0) from flt_pl hNx (by decide +kernel), show pl 0 = 0 by decide +kernel]; exact decide_eq_false hlt0
  have hge : (FloatKind.f64.format.order x pinf == some .gt || FloatKind.f64.format.order x pinf == some .eq) = false := by
   rw [show (FloatKind.f64.format.order x pinf == some .gt || FloatKind.f64.format.order x pinf == some .eq) = decide (pl pinf ≤ pl x) from fge_pl hNx (by decide +kernel), pl_pos (r := pinf) (by decide), hpx]
   exact decide_eq_false (by unfold pinf; split <;> omega)
  clear hx hrx hy1 hq hpx hlt0
  go_enter Tryz.func107, Tryz.ntmps107
  go_wp2_with (first | (go_at_call 109; refine (isinf_any _ _).mono ?_; rintro e w' ⟨rfl, rfl⟩; rw [hi]) | (go_at_call 75; refine (isnan_any _ _).mono ?_; rintro e w' ⟨rfl, rfl⟩; first | rw [hNx] | rw [hy]) | (go_at_call 79; refine (abs_any _ _).mono ?_; rintro e w' ⟨rfl, rfl⟩; rw [htop]) | (go_at_call 138; refine (frexp_inf _).mono ?_; rintro e w' ⟨rfl, rfl⟩))
  go_loopw [7] (StillRel x w) (fun v _ => 0)
  case atStart => exact ⟨rfl, 0, rfl⟩
  case round =>
   obtain ⟨rfl, n, rfl⟩ := hrel
   go_wp2_with fail
   go_ret
   exact ⟨_, _, rfl, HEND.out, by first | rfl | (simp only [World.drewN_drewN]; rfl)⟩
theorem mod_nought (y : Nat) (w : World) (hy : isN y = false) (hy0 : 0 < rung y) (hy1 : rung y < 9218868437227405312) :
  Calls Tryz.prog 107 #[.float .f64 9223372036854775808, .float .f64 y] w (FRetF (modS 9223372036854775808 y) w) := by
 have HEND : Hid (cn 9223372036854775808 = modS 9223372036854775808 y) := qh (still_end (x := 9223372036854775808) (q := 0) (neg := true) (by decide) (by omega) hy hy0 (.inr rfl))
 have hNx : isN 9223372036854775808 = false := by decide +kernel
 have hz : (FloatKind.f64.format.order y 0 == some .eq) = false := by rw [show (FloatKind.f64.format.order y 0 == some .eq) = decide (rung y = 0) from feq0_rung]; exact decide_eq_false (by omega)
 have hi : finf (cn 9223372036854775808) = false := by decide +kernel
 obtain ⟨yy, hyy⟩ : ∃ yy, yy = rung y := ⟨_, rfl⟩
 have htop : y % top = yy := by rw [hyy]; rfl
 rw [← hyy] at hy0 hy1
 have HY0 := qh hy0
 have HY1 := qh hy1
 have hlt : (FloatKind.f64.format.order 9223372036854775808 0 == some .lt) = false := by decide +kernel
 have hge : (FloatKind.f64.format.order 9223372036854775808 yy == some .gt || FloatKind.f64.format.order 9223372036854775808 yy == some .eq) = false := by
  rw [show (FloatKind.f64.format.order 9223372036854775808 yy == some .gt || FloatKind.f64.format.order 9223372036854775808 yy == some .eq) = decide (pl yy ≤ pl 9223372036854775808) from fge_pl hNx (isF_notN (isF_small hy1)), pl_pos (by omega), show pl 9223372036854775808 = 0 by decide +kernel]
  exact decide_eq_false (by omega)
 clear hyy hy0 hy1
 go_enter Tryz.func107, Tryz.ntmps107
 go_wp2_with (first | (go_at_call 109; refine (isinf_any _ _).mono ?_; rintro e w' ⟨rfl, rfl⟩; rw [hi]) | (go_at_call 75; refine (isnan_any _ _).mono ?_; rintro e w' ⟨rfl, rfl⟩; first | rw [hNx] | rw [hy]) | (go_at_call 79; refine (abs_any _ _).mono ?_; rintro e w' ⟨rfl, rfl⟩; rw [htop]) | (go_at_call 138; refine (frexp_any _ _ HY0.out HY1.out).mono ?_; rintro e w' ⟨ly, LY, ny, rfl, hfy, hLY, rfl⟩; clear hfy hLY))
 go_loopw [7] (StillRel 9223372036854775808 w) (fun v _ => 0)
 case atStart => exact ⟨rfl, _, rfl⟩
 case round =>
  obtain ⟨rfl, n, rfl⟩ := hrel
  go_wp2_with fail
  go_ret
  exact ⟨_, _, rfl, HEND.out, by first | rfl | (simp only [World.drewN_drewN]; rfl)⟩
theorem mod_none (x y : Nat) (w : World) (h : rung y = 0 ∨ rung x = 9218868437227405312 ∨ isN x = true ∨ isN y = true) :
  Calls Tryz.prog 107 #[.float .f64 x, .float .f64 y] w (FRetF (modS x y) w) := by
 have HEND : Hid (cn 9221120237041090561 = modS x y) := qh (by
  unfold modS
  rw [if_pos (by rcases h with h | h | h | h <;> simp [h])]
  decide +kernel)
 have hz : (FloatKind.f64.format.order y 0 == some .eq) = decide (rung y = 0) := feq0_rung
 have hi : finf (cn x) = decide (rung x = 9218868437227405312) := finf_rung
 by_cases h1 : rung y = 0
 ·rw [decide_eq_true h1] at hz
  clear h h1 hi
  go_enter Tryz.func107, Tryz.ntmps107
  go_wp2_with (go_at_call 76; refine (nan_any _).mono ?_; rintro e w' ⟨rfl, rfl⟩)
  go_ret
  exact ⟨_, 0, rfl, HEND.out, rfl⟩
 rw [decide_eq_false h1] at hz
 by_cases h2 : rung x = 9218868437227405312
 ·rw [decide_eq_true h2] at hi
  clear h h1 h2
  go_enter Tryz.func107, Tryz.ntmps107
  go_wp2_with (first | (go_at_call 76; refine (nan_any _).mono ?_; rintro e w' ⟨rfl, rfl⟩) | (go_at_call 109; refine (isinf_any _ _).mono ?_; rintro e w' ⟨rfl, rfl⟩; rw [hi]))
  go_ret
  exact ⟨_, 0, rfl, HEND.out, rfl⟩
 rw [decide_eq_false h2] at hi
 cases h3 : isN x
 ·have h4 : isN y = true := by rw [h3] at h; simpa [h1, h2] using h
  clear h h1 h2
  go_enter Tryz.func107, Tryz.ntmps107
  go_wp2_with (first | (go_at_call 76; refine (nan_any _).mono ?_; rintro e w' ⟨rfl, rfl⟩) | (go_at_call 109; refine (isinf_any _ _).mono ?_; rintro e w' ⟨rfl, rfl⟩; rw [hi]) | (go_at_call 75; refine (isnan_any _ _).mono ?_; rintro e w' ⟨rfl, rfl⟩; first | rw [h3] | rw [h4]))
  go_ret
  exact ⟨_, 0, rfl, HEND.out, rfl⟩
 ·clear h h1 h2
  go_enter Tryz.func107, Tryz.ntmps107
  go_wp2_with (first | (go_at_call 76; refine (nan_any _).mono ?_; rintro e w' ⟨rfl, rfl⟩) | (go_at_call 109; refine (isinf_any _ _).mono ?_; rintro e w' ⟨rfl, rfl⟩; rw [hi]) | (go_at_call 75; refine (isnan_any _ _).mono ?_; rintro e w' ⟨rfl, rfl⟩; rw [h3]))
  go_ret
  exact ⟨_, 0, rfl, HEND.out, rfl⟩
theorem word_of {x : Nat} (hx : x < 18446744073709551616) : x = Ieee.double.word (sgn x) (rung x) := by
 rw [word_eq]
 unfold sgn rung
 by_cases h : x / 9223372036854775808 % 2 = 1
 ·rw [h]; simp; omega
 ·rw [show x / 9223372036854775808 % 2 = 0 by omega]; simp; omega
theorem mod_in (x y : Nat) (w : World) (hx : W64 x) : Calls Tryz.prog 107 #[.float .f64 x, .float .f64 y] w (FRetF (modS x y) w) := by
 by_cases h : rung y = 0 ∨ rung x = 9218868437227405312 ∨ isN x = true ∨ isN y = true
 ·exact mod_none x y w h
 have h1 : isN x = false := by cases e : isN x <;> simp_all
 have h2 : isN y = false := by cases e : isN y <;> simp_all
 have h3 : ¬ rung y = 0 := fun e => h (.inl e)
 have h4 : ¬ rung x = 9218868437227405312 := fun e => h (.inr (.inl e))
 have h5 : rung x ≤ 9218868437227405312 := Nat.le_of_not_lt fun e => by rw [rung_nan.2 e] at h1; cases h1
 have h6 : rung y ≤ 9218868437227405312 := Nat.le_of_not_lt fun e => by rw [rung_nan.2 e] at h2; cases h2
 have h64 : x < 18446744073709551616 := by unfold W64 at hx; rwa [cn_of_notN h1] at hx
 have hw := word_of h64
 by_cases hy : rung y = 9218868437227405312
 ·exact mod_inf x y (rung x) (sgn x) w hw (by omega) h2 hy
 ·by_cases h0 : sgn x = true ∧ rung x = 0
  ·have : x = 9223372036854775808 := by rw [hw, h0.1, h0.2]; decide
   subst this
   exact mod_nought y w h2 (by omega) (by omega)
  ·refine mod_fin x y (rung x) (sgn x) w hw (fun e => ?_) (by omega) h2 (by omega) (by omega)
   rcases Nat.eq_zero_or_pos (rung x) with h7 | h7
   ·exact absurd ⟨e, h7⟩ h0
   ·exact h7
theorem mmod_any (x y : Nat) (w : World) (hx : W64 x) : Calls Tryz.prog 74 #[.float .f64 x, .float .f64 y] w (FRetF (modS x y) w) := by
 have H := qh (fun w => mod_in x y w hx)
 clear hx
 go_enter Tryz.func74, Tryz.ntmps74
 go_wp2_with (go_at_call 107; refine (H.out _).mono ?_; rintro e w' ⟨r, n, rfl, hr, rfl⟩; have HR := qh hr; clear hr)
 go_ret
 exact ⟨r, n, rfl, HR.out, rfl⟩
theorem cmod_any (x y : Nat) (w : World) (hx : W64 x) : Calls Tryz.prog 51 #[.float .f64 x, .float .f64 y] w (FRetF (modS x y) w) := by
 have H := qh (fun w => mmod_any x y w hx)
 clear hx
 go_enter Tryz.func51, Tryz.ntmps51
 go_wp2_with (go_at_call 74; refine (H.out _).mono ?_; rintro e w' ⟨r, n, rfl, hr, rfl⟩; have HR := qh hr; clear hr)
 go_ret
 exact ⟨r, n, rfl, HR.out, rfl⟩
end Go.Proofs.YtmmfjknnbkcniaaGreatDoor
