/- What Pow answers, in plain; the pieces of calc.Pow. -/
import Derived.Test.YtmmfjknnbkcniaaGreatDoorV19
set_option maxHeartbeats 64000000
set_option maxRecDepth 100000
namespace Go.Proofs.YtmmfjknnbkcniaaGreatDoor
open Go.Fl Go.Rel Go.RowKit
set_option linter.unusedSimpArgs false
set_option linter.unusedVariables false
def eqz (x : Nat) : Bool := ford x 0 == some .eq
def ltz (x : Nat) : Bool := ford x 0 == some .lt
def gtz (x : Nat) : Bool := ford x 0 == some .gt
def eq1 (x : Nat) : Bool := ford x 4607182418800017408 == some .eq
def eqm1 (x : Nat) : Bool := ford x 13830554455654793216 == some .eq
def eqA1 (x : Nat) : Bool := ford (x % top) 4607182418800017408 == some .eq
def gtA1 (x : Nat) : Bool := ford (x % top) 4607182418800017408 == some .gt
def absLe (y : Nat) : Bool := ford (y % top) 4652218415073722368 == some .lt || ford (y % top) 4652218415073722368 == some .eq
def powN (y : Nat) : Nat := (toI (y % top)).toNat
def powW (x y : Nat) : Nat := if ltz y then fdiv w1 (powF 11 (powN y) (cn x) w1) else powF 11 (powN y) (cn x) w1
def powFar (x y : Nat) : Nat := if eqA1 x then w1 else if gtA1 x == gtz y then pinf else 0
def powNought (x y : Nat) : Nat := if oddB y && ltz y then Ieee.double.word (sgn x) pinf else if oddB y then x else if ltz y then pinf else 0
def powInf (x y : Nat) : Nat := if ltz x && oddB y then Ieee.double.word true (if gtz y then pinf else 0) else if gtz y then pinf else 0
def edgeS (x y : Nat) : Option Nat :=
 if eqz y || eq1 x then some w1
 else if isN x || isN y then some nanc
 else if finf (cn y) then some (powFar x y)
 else if eqz x then some (powNought x y)
 else if finf (cn x) then some (powInf x y)
 else none
noncomputable def powE (x y : Nat) : Nat := expS (fmul (cn y) (lnS (cn (x % top))))
noncomputable def powRest (x y : Nat) : Nat :=
 if wholeB y && absLe y then powW x y
 else if ltz x && !wholeB y then nanc
 else if ltz x && oddB y then fneg (powE x y) else powE x y
noncomputable def powS (x y : Nat) : Nat := (edgeS x y).getD (powRest x y)
theorem eqA1_iff {x : Nat} (h : isN x = false) (h1 : eq1 x = false) : eqA1 x = eqm1 x := by
 unfold eqA1 eqm1
 unfold eq1 at h1
 have hm : x % top = rung x := rfl
 rw [hm]
 have hlt := rung_lt_sw x
 have h2 : ¬ 9218868437227405312 < rung x := fun e => by rw [rung_nan.2 e] at h; cases h
 have hNr : isN (rung x) = false := by rw [isN_iff, rung_small hlt]; exact decide_eq_false h2
 rw [feq_pl h (by decide +kernel), pl_pos (r := 4607182418800017408) (by omega)] at h1
 rw [feq_pl h (by decide +kernel), feq_pl hNr (by decide +kernel), pl_pos (r := 4607182418800017408) (by omega), pl_pos (r := rung x) (by omega), show pl 13830554455654793216 = -4607182418800017408 by decide +kernel, Bool.eq_iff_iff]
 have h3 := of_decide_eq_false h1
 simp only [decide_eq_true_eq]
 unfold pl at *
 rw [h] at *
 simp only [Bool.false_eq_true, if_false] at *
 split at h3 <;> rename_i hs
 ·rw [if_pos hs]; omega
 ·rw [if_neg hs]; omega
theorem absLe_fin {y : Nat} (h : absLe y = true) : isF (y % top) ∧ rung (y % top) ≤ 4652218415073722368 := by
 unfold absLe at h
 have hm : y % top = rung y := rfl
 rw [hm] at h ⊢
 have hlt := rung_lt_sw y
 by_cases hN : isN (rung y) = true
 ·rw [ford_nan1 hN] at h; cases h
 ·have hN' : isN (rung y) = false := by cases e : isN (rung y) <;> simp_all
  have hN2 := hN'
  rw [isN_iff, rung_small hlt] at hN2
  have h2 : ¬ 9218868437227405312 < rung y := of_decide_eq_false hN2
  rw [flt_pl hN' (by decide +kernel), feq_pl hN' (by decide +kernel), pl_pos (r := 4652218415073722368) (by omega), pl_pos (r := rung y) (by omega)] at h
  simp only [Bool.or_eq_true, decide_eq_true_eq] at h
  unfold isF
  rw [rung_small hlt]
  omega
theorem powN_conv {y : Nat} (h : absLe y = true) : floatToIntVal .f64 (y % top) .i64 = some ((powN y : Nat) : Int) ∧ powN y ≤ 1024 := by
 obtain ⟨hf, hr⟩ := absLe_fin h
 obtain ⟨hc, b1, b2⟩ := toI_some (m := 1024) (by decide) units1024 (by omega) hf hr
 have h0 : 0 ≤ toI (y % top) := by
  have hlt := rung_lt_sw y
  have hm : y % top = rung y := rfl
  unfold isF at hf
  rw [hm, rung_small hlt] at hf
  have hu : uv (y % top) = (unitsOf (rung y) : Int) := by rw [hm]; exact uv_small hf
  have e : some (toI (y % top)) = some ((uv (y % top)).tdiv (U : Int)) := by
   rw [← hc]
   exact toIntVal_fin (lo := 0) (hi := 1024) (by rw [hm]; exact isF_small hf) (by rw [hu]; omega) (by
    rw [hu]
    have := unitsOf_le hr
    rw [units1024, hm, rung_small hlt] at this
    generalize U = g at *
    omega) (by omega) (by omega)
  have e2 := Option.some.inj e
  rw [e2, hu]
  exact Int.tdiv_nonneg (by omega) (by omega)
 unfold powN
 constructor
 ·rw [hc]; congr 1; omega
 ·omega
def PowRel (T : Nat) (w : World) (va vr vn : Value) (wr : World) : Prop :=
 ∃ (a r n k m : Nat), va = .float .f64 a ∧ vr = .float .f64 r ∧ vn = .int .i64 (n : Int) ∧ n < 2 ^ k ∧ n ≤ 1024 ∧ powF k n (cn a) (cn r) = T ∧ wr = w.drewN m
theorem powF_step {k n a r a' r' : Nat} (h0 : 0 < n) (ha : cn a' = if 2 ≤ n then fmul (cn a) (cn a) else cn a) (hr : cn r' = if n % 2 = 1 then fmul (cn r) (cn a) else cn r) : powF (k + 1) n (cn a) (cn r) = powF k (n / 2) (cn a') (cn r') := by
 rw [powF, if_neg (by omega), ha, hr]
theorem powWhole_any (x y : Nat) (w : World) (h : absLe y = true) : Calls Tryz.prog 83 #[.float .f64 x, .float .f64 y] w (FRet (powW x y) w) := by
 obtain ⟨hc, hN⟩ := powN_conv h
 obtain ⟨T, hT⟩ : ∃ T, T = powF 11 (powN y) (cn x) w1 := ⟨_, rfl⟩
 have HTT : Hid (powW x y = if ltz y then fdiv w1 T else T) := qh (by unfold powW; rw [← hT])
 have hcv := fun w' => run_convert_float_int (P := Tryz.prog) w' 32 3 .f64 .i64 (y % top) _ (by kernel_rfl) Tryz.underlying3 hc
 have HST : Hid (PowRel T w (.float .f64 x) (.float .f64 4607182418800017408) (.int .i64 ((powN y : Nat) : Int)) (w.drewN 0)) := qh ⟨x, _, powN y, 11, 0, rfl, rfl, rfl, by omega, hN, by rw [hT, show cn 4607182418800017408 = w1 by decide +kernel], rfl⟩
 have hl : (FloatKind.f64.format.order y 0 == some .lt) = ltz y := rfl
 generalize powN y = N at *
 clear h hc hN hT
 go_enter Tryz.func83, Tryz.ntmps83
 go_wp2_with (first | (go_at_call 79; refine (abs_any _ _).mono ?_; rintro e w' ⟨rfl, rfl⟩) | simp only [hcv])
 go_loopw [5, 6, 7] (PowRel T w) (fun _ _ v _ => (intOf v).toNat)
 case atStart => exact HST.out
 case round =>
  obtain ⟨a, r, n, k, m, rfl, rfl, rfl, hk, hn, hT, rfl⟩ := hrel
  have n1 : (0 : Int) ≤ (n : Int) := by omega
  have n2 : (n : Int) ≤ 1024 := by omega
  by_cases h0 : 0 < n
  ·have d0 : decide (0 < n) = true := decide_eq_true (by omega)
   obtain ⟨k', rfl⟩ : ∃ k', k = k' + 1 := ⟨k - 1, by rcases Nat.eq_zero_or_pos k with h | h; (· rw [h, Nat.pow_zero] at hk; omega); (· omega)⟩
   obtain ⟨q, hq⟩ : ∃ q, q = n / 2 := ⟨_, rfl⟩
   have hdv : (n : Int).tdiv 2 = (q : Int) := by rw [Int.tdiv_eq_ediv_of_nonneg n1]; omega
   have hmd : (n : Int).tmod 2 = (n : Int) % 2 := Int.tmod_eq_emod_of_nonneg n1
   have q1 : (0 : Int) ≤ (q : Int) := by omega
   have q2 : (q : Int) ≤ 1024 := by omega
   have HQ := qh hq
   have HK : Hid (q < 2 ^ k') := qh (by rw [Nat.pow_succ] at hk; omega)
   have HT := qh hT
   have H0 := qh h0
   by_cases hodd : n % 2 = 1
   ·have d1 : ((n : Int) % 2 == 1) = true := by simp; omega
    have HO := qh hodd
    by_cases h2 : 2 ≤ n
    ·have d2 : decide (0 < q) = true := decide_eq_true (by omega)
     have H2 := qh h2
     clear hk hn hT h0 hq hodd h2
     go_wp2_with (first | (refine wpList_fop .mul _ _ _ _ r a rfl rfl rfl ?_; intro r' nr hr; have HR := qh hr; clear hr) | (refine wpList_fop .mul _ _ _ _ a a rfl rfl rfl ?_; intro a' na ha; have HA := qh ha; clear ha))
     go_roundw
     case rel => exact ⟨a', r', q, k', _, rfl, rfl, rfl, HK.out, by have := HQ.out; omega, by rw [← HT.out, HQ.out]; exact (powF_step H0.out (by rw [if_pos H2.out]; exact HA.out) (by rw [if_pos HO.out]; exact HR.out)).symm, by first | rfl | (simp only [World.drewN_drewN]; rfl)⟩
     case measure => have := HQ.out; have := H0.out; simp [intOf]; omega
    ·have d2 : decide (0 < q) = false := decide_eq_false (by omega)
     have H2 := qh h2
     clear hk hn hT h0 hq hodd h2
     go_wp2_with (refine wpList_fop .mul _ _ _ _ r a rfl rfl rfl ?_; intro r' nr hr; have HR := qh hr; clear hr)
     go_roundw
     case rel => exact ⟨a, r', q, k', _, rfl, rfl, rfl, HK.out, by have := HQ.out; omega, by rw [← HT.out, HQ.out]; exact (powF_step H0.out (by rw [if_neg H2.out]) (by rw [if_pos HO.out]; exact HR.out)).symm, by first | rfl | (simp only [World.drewN_drewN]; rfl)⟩
     case measure => have := HQ.out; have := H0.out; simp [intOf]; omega
   ·have d1 : ((n : Int) % 2 == 1) = false := by simp; omega
    have HO := qh hodd
    have h2 : 2 ≤ n := by omega
    have d2 : decide (0 < q) = true := decide_eq_true (by omega)
    have H2 := qh h2
    clear hk hn hT h0 hq hodd h2
    go_wp2_with (refine wpList_fop .mul _ _ _ _ a a rfl rfl rfl ?_; intro a' na ha; have HA := qh ha; clear ha)
    go_roundw
    case rel => exact ⟨a', r, q, k', _, rfl, rfl, rfl, HK.out, by have := HQ.out; omega, by rw [← HT.out, HQ.out]; exact (powF_step H0.out (by rw [if_pos H2.out]; exact HA.out) (by rw [if_neg HO.out])).symm, by first | rfl | (simp only [World.drewN_drewN]; rfl)⟩
    case measure => have := HQ.out; have := H0.out; simp [intOf]; omega
  ·have d0 : decide (0 < n) = false := decide_eq_false (by omega)
   have HR0 : Hid (cn r = T) := qh (by rw [← hT, show n = 0 by omega, powF_zero])
   clear hk hn hT h0
   cases hly : ltz y
   ·rw [hly] at hl
    have HV2 : Hid (powW x y = T) := qh (by rw [HTT.out, hly]; rfl)
    go_wp2_with fail
    go_ret
    exact ⟨_, _, rfl, by rw [HV2.out]; exact HR0.out, by first | rfl | (simp only [World.drewN_drewN]; rfl)⟩
   ·rw [hly] at hl
    have HV2 : Hid (powW x y = fdiv w1 T) := qh (by rw [HTT.out, hly]; rfl)
    go_wp2_with (refine wpList_fop .quo _ _ _ _ 4607182418800017408 r rfl rfl rfl ?_; intro r9 n9 hr9; have HR9 := qh hr9; clear hr9)
    go_ret
    exact ⟨_, _, rfl, by rw [HV2.out, HR9.out, HR0.out, show cn 4607182418800017408 = w1 by decide +kernel]; rfl, by first | rfl | (simp only [World.drewN_drewN]; rfl)⟩
theorem powFar_0 (x y : Nat) (w : World)  (f0 : eqA1 x = true) : Calls Tryz.prog 78 #[.float .f64 (x % top), .bool (gtz y)] w (FRet (powFar x y) w) := by
 have HV : Hid (cn 4607182418800017408 = powFar x y) := qh (by simp [powFar, f0]; decide +kernel)
 have q0 := ordQ f0
 go_enter Tryz.func78, Tryz.ntmps78
 go_wp2_with (first | (go_at_call 110; refine (inf_up _).mono ?_; rintro e w' ⟨rfl, rfl⟩))
 go_ret
 exact ⟨_, 0, rfl, HV.out, rfl⟩
theorem powFar_1 (x y : Nat) (w : World)  (f0 : eqA1 x = false) (f1 : gtA1 x = true) (f2 : gtz y = true) : Calls Tryz.prog 78 #[.float .f64 (x % top), .bool (true)] w (FRet (powFar x y) w) := by
 have HV : Hid (cn pinf = powFar x y) := qh (by simp [powFar, f0, f1, f2]; decide +kernel)
 have q0 := ordQ f0
 have q1 := ordQ f1
 have q2 := ordQ f2
 go_enter Tryz.func78, Tryz.ntmps78
 go_wp2_with (first | (go_at_call 110; refine (inf_up _).mono ?_; rintro e w' ⟨rfl, rfl⟩))
 go_ret
 exact ⟨_, 0, rfl, HV.out, rfl⟩
theorem powFar_2 (x y : Nat) (w : World)  (f0 : eqA1 x = false) (f1 : gtA1 x = true) (f2 : gtz y = false) : Calls Tryz.prog 78 #[.float .f64 (x % top), .bool (false)] w (FRet (powFar x y) w) := by
 have HV : Hid (cn 0 = powFar x y) := qh (by simp [powFar, f0, f1, f2]; decide +kernel)
 have q0 := ordQ f0
 have q1 := ordQ f1
 have q2 := ordQ f2
 go_enter Tryz.func78, Tryz.ntmps78
 go_wp2_with (first | (go_at_call 110; refine (inf_up _).mono ?_; rintro e w' ⟨rfl, rfl⟩))
 go_ret
 exact ⟨_, 0, rfl, HV.out, rfl⟩
theorem powFar_3 (x y : Nat) (w : World)  (f0 : eqA1 x = false) (f1 : gtA1 x = false) (f2 : gtz y = true) : Calls Tryz.prog 78 #[.float .f64 (x % top), .bool (true)] w (FRet (powFar x y) w) := by
 have HV : Hid (cn 0 = powFar x y) := qh (by simp [powFar, f0, f1, f2]; decide +kernel)
 have q0 := ordQ f0
 have q1 := ordQ f1
 have q2 := ordQ f2
 go_enter Tryz.func78, Tryz.ntmps78
 go_wp2_with (first | (go_at_call 110; refine (inf_up _).mono ?_; rintro e w' ⟨rfl, rfl⟩))
 go_ret
 exact ⟨_, 0, rfl, HV.out, rfl⟩
theorem powFar_4 (x y : Nat) (w : World)  (f0 : eqA1 x = false) (f1 : gtA1 x = false) (f2 : gtz y = false) : Calls Tryz.prog 78 #[.float .f64 (x % top), .bool (false)] w (FRet (powFar x y) w) := by
 have HV : Hid (cn pinf = powFar x y) := qh (by simp [powFar, f0, f1, f2]; decide +kernel)
 have q0 := ordQ f0
 have q1 := ordQ f1
 have q2 := ordQ f2
 go_enter Tryz.func78, Tryz.ntmps78
 go_wp2_with (first | (go_at_call 110; refine (inf_up _).mono ?_; rintro e w' ⟨rfl, rfl⟩))
 go_ret
 exact ⟨_, 0, rfl, HV.out, rfl⟩
theorem powFar_any (x y : Nat) (w : World) : Calls Tryz.prog 78 #[.float .f64 (x % top), .bool (gtz y)] w (FRet (powFar x y) w) := by
 cases h1 : eqA1 x
 ·cases h2 : gtA1 x <;> cases h3 : gtz y
  ·exact powFar_4 x y w h1 h2 h3
  ·exact powFar_3 x y w h1 h2 h3
  ·exact powFar_2 x y w h1 h2 h3
  ·exact powFar_1 x y w h1 h2 h3
 ·exact powFar_0 x y w h1
theorem powNought_tt (x y : Nat) (w : World) (hx : x < 18446744073709551616) (hn : isN x = false) (f0 : oddB y = true) (f1 : ltz y = true) : Calls Tryz.prog 80 #[.float .f64 x, .float .f64 y] w (FRet (powNought x y) w) := by
 have HV : Hid (cn (Ieee.double.word (sgn x) pinf) = powNought x y) := qh (by rw [cn_of_notN (notN_word _ (by decide))]; simp [powNought, f0, f1])
 have HX := qh hx
 clear hx hn
 have q1 := ordQ f1
 go_enter Tryz.func80, Tryz.ntmps80
 go_wp2_with (first | (go_at_call 110; refine (inf_up _).mono ?_; rintro e w' ⟨rfl, rfl⟩) | (go_at_call 86; refine (codd_any _ _).mono ?_; rintro e w' ⟨no, rfl, rfl⟩; rw [f0]) | (go_at_call 111; refine (copysign_any _ _ _ (by decide) HX.out).mono ?_; rintro e w' ⟨rfl, rfl⟩))
 go_ret
 exact ⟨_, _, rfl, HV.out, by first | rfl | (simp only [World.drewN_drewN]; rfl)⟩
theorem powNought_tf (x y : Nat) (w : World) (hx : x < 18446744073709551616) (hn : isN x = false) (f0 : oddB y = true) (f1 : ltz y = false) : Calls Tryz.prog 80 #[.float .f64 x, .float .f64 y] w (FRet (powNought x y) w) := by
 have HV : Hid (cn x = powNought x y) := qh (by rw [cn_of_notN hn]; simp [powNought, f0, f1])
 have HX := qh hx
 clear hx hn
 have q1 := ordQ f1
 go_enter Tryz.func80, Tryz.ntmps80
 go_wp2_with (first | (go_at_call 110; refine (inf_up _).mono ?_; rintro e w' ⟨rfl, rfl⟩) | (go_at_call 86; refine (codd_any _ _).mono ?_; rintro e w' ⟨no, rfl, rfl⟩; rw [f0]) | (go_at_call 111; refine (copysign_any _ _ _ (by decide) HX.out).mono ?_; rintro e w' ⟨rfl, rfl⟩))
 go_ret
 exact ⟨_, _, rfl, HV.out, by first | rfl | (simp only [World.drewN_drewN]; rfl)⟩
theorem powNought_ft (x y : Nat) (w : World) (hx : x < 18446744073709551616) (hn : isN x = false) (f0 : oddB y = false) (f1 : ltz y = true) : Calls Tryz.prog 80 #[.float .f64 x, .float .f64 y] w (FRet (powNought x y) w) := by
 have HV : Hid (cn pinf = powNought x y) := qh (by rw [cn_pinf]; simp [powNought, f0, f1])
 have HX := qh hx
 clear hx hn
 have q1 := ordQ f1
 go_enter Tryz.func80, Tryz.ntmps80
 go_wp2_with (first | (go_at_call 110; refine (inf_up _).mono ?_; rintro e w' ⟨rfl, rfl⟩) | (go_at_call 86; refine (codd_any _ _).mono ?_; rintro e w' ⟨no, rfl, rfl⟩; rw [f0]) | (go_at_call 111; refine (copysign_any _ _ _ (by decide) HX.out).mono ?_; rintro e w' ⟨rfl, rfl⟩))
 go_ret
 exact ⟨_, _, rfl, HV.out, by first | rfl | (simp only [World.drewN_drewN]; rfl)⟩
theorem powNought_ff (x y : Nat) (w : World) (hx : x < 18446744073709551616) (hn : isN x = false) (f0 : oddB y = false) (f1 : ltz y = false) : Calls Tryz.prog 80 #[.float .f64 x, .float .f64 y] w (FRet (powNought x y) w) := by
 have HV : Hid (cn 0 = powNought x y) := qh (by rw [cn_zero]; simp [powNought, f0, f1])
 have HX := qh hx
 clear hx hn
 have q1 := ordQ f1
 go_enter Tryz.func80, Tryz.ntmps80
 go_wp2_with (first | (go_at_call 110; refine (inf_up _).mono ?_; rintro e w' ⟨rfl, rfl⟩) | (go_at_call 86; refine (codd_any _ _).mono ?_; rintro e w' ⟨no, rfl, rfl⟩; rw [f0]) | (go_at_call 111; refine (copysign_any _ _ _ (by decide) HX.out).mono ?_; rintro e w' ⟨rfl, rfl⟩))
 go_ret
 exact ⟨_, _, rfl, HV.out, by first | rfl | (simp only [World.drewN_drewN]; rfl)⟩
theorem powNought_any (x y : Nat) (w : World) (hx : x < 18446744073709551616) (hn : isN x = false) : Calls Tryz.prog 80 #[.float .f64 x, .float .f64 y] w (FRet (powNought x y) w) := by
 cases h1 : oddB y <;> cases h2 : ltz y
 ·exact powNought_ff x y w hx hn h1 h2
 ·exact powNought_ft x y w hx hn h1 h2
 ·exact powNought_tf x y w hx hn h1 h2
 ·exact powNought_tt x y w hx hn h1 h2
theorem powInf_ttt (x y : Nat) (w : World)  (f0 : ltz x = true) (f1 : gtz y = true) (f2 : oddB y = true) : Calls Tryz.prog 81 #[.float .f64 x, .float .f64 y] w (FRet (powInf x y) w) := by
 have HV : Hid (cn (Ieee.double.word (sgn 13830554455654793216) pinf) = powInf x y) := qh (by simp [powInf, f0, f1, f2]; decide +kernel)
 have q0 := ordQ f0
 have q1 := ordQ f1
 go_enter Tryz.func81, Tryz.ntmps81
 go_wp2_with (first | (go_at_call 110; refine (inf_up _).mono ?_; rintro e w' ⟨rfl, rfl⟩) | (go_at_call 86; refine (codd_any _ _).mono ?_; rintro e w' ⟨no, rfl, rfl⟩; rw [f2]) | (go_at_call 111; refine (copysign_any _ _ _ (by decide) (by decide)).mono ?_; rintro e w' ⟨rfl, rfl⟩))
 go_ret
 exact ⟨_, _, rfl, HV.out, by first | rfl | (simp only [World.drewN_drewN]; rfl)⟩
theorem powInf_ttf (x y : Nat) (w : World)  (f0 : ltz x = true) (f1 : gtz y = false) (f2 : oddB y = true) : Calls Tryz.prog 81 #[.float .f64 x, .float .f64 y] w (FRet (powInf x y) w) := by
 have HV : Hid (cn (Ieee.double.word (sgn 13830554455654793216) 0) = powInf x y) := qh (by simp [powInf, f0, f1, f2]; decide +kernel)
 have q0 := ordQ f0
 have q1 := ordQ f1
 go_enter Tryz.func81, Tryz.ntmps81
 go_wp2_with (first | (go_at_call 110; refine (inf_up _).mono ?_; rintro e w' ⟨rfl, rfl⟩) | (go_at_call 86; refine (codd_any _ _).mono ?_; rintro e w' ⟨no, rfl, rfl⟩; rw [f2]) | (go_at_call 111; refine (copysign_any _ _ _ (by decide) (by decide)).mono ?_; rintro e w' ⟨rfl, rfl⟩))
 go_ret
 exact ⟨_, _, rfl, HV.out, by first | rfl | (simp only [World.drewN_drewN]; rfl)⟩
theorem powInf_tft (x y : Nat) (w : World)  (f0 : ltz x = true) (f1 : gtz y = true) (f2 : oddB y = false) : Calls Tryz.prog 81 #[.float .f64 x, .float .f64 y] w (FRet (powInf x y) w) := by
 have HV : Hid (cn pinf = powInf x y) := qh (by simp [powInf, f0, f1, f2]; decide +kernel)
 have q0 := ordQ f0
 have q1 := ordQ f1
 go_enter Tryz.func81, Tryz.ntmps81
 go_wp2_with (first | (go_at_call 110; refine (inf_up _).mono ?_; rintro e w' ⟨rfl, rfl⟩) | (go_at_call 86; refine (codd_any _ _).mono ?_; rintro e w' ⟨no, rfl, rfl⟩; rw [f2]) | (go_at_call 111; refine (copysign_any _ _ _ (by decide) (by decide)).mono ?_; rintro e w' ⟨rfl, rfl⟩))
 go_ret
 exact ⟨_, _, rfl, HV.out, by first | rfl | (simp only [World.drewN_drewN]; rfl)⟩
theorem powInf_tff (x y : Nat) (w : World)  (f0 : ltz x = true) (f1 : gtz y = false) (f2 : oddB y = false) : Calls Tryz.prog 81 #[.float .f64 x, .float .f64 y] w (FRet (powInf x y) w) := by
 have HV : Hid (cn 0 = powInf x y) := qh (by simp [powInf, f0, f1, f2]; decide +kernel)
 have q0 := ordQ f0
 have q1 := ordQ f1
 go_enter Tryz.func81, Tryz.ntmps81
 go_wp2_with (first | (go_at_call 110; refine (inf_up _).mono ?_; rintro e w' ⟨rfl, rfl⟩) | (go_at_call 86; refine (codd_any _ _).mono ?_; rintro e w' ⟨no, rfl, rfl⟩; rw [f2]) | (go_at_call 111; refine (copysign_any _ _ _ (by decide) (by decide)).mono ?_; rintro e w' ⟨rfl, rfl⟩))
 go_ret
 exact ⟨_, _, rfl, HV.out, by first | rfl | (simp only [World.drewN_drewN]; rfl)⟩
theorem powInf_ftt (x y : Nat) (w : World)  (f0 : ltz x = false) (f1 : gtz y = true) : Calls Tryz.prog 81 #[.float .f64 x, .float .f64 y] w (FRet (powInf x y) w) := by
 have HV : Hid (cn pinf = powInf x y) := qh (by simp [powInf, f0, f1]; decide +kernel)
 have q0 := ordQ f0
 have q1 := ordQ f1
 go_enter Tryz.func81, Tryz.ntmps81
 go_wp2_with (first | (go_at_call 110; refine (inf_up _).mono ?_; rintro e w' ⟨rfl, rfl⟩) | (go_at_call 86; refine (codd_any _ _).mono ?_; rintro e w' ⟨no, rfl, rfl⟩; rw [f2]) | (go_at_call 111; refine (copysign_any _ _ _ (by decide) (by decide)).mono ?_; rintro e w' ⟨rfl, rfl⟩))
 go_ret
 exact ⟨_, 0, rfl, HV.out, rfl⟩
theorem powInf_ftf (x y : Nat) (w : World)  (f0 : ltz x = false) (f1 : gtz y = false) : Calls Tryz.prog 81 #[.float .f64 x, .float .f64 y] w (FRet (powInf x y) w) := by
 have HV : Hid (cn 0 = powInf x y) := qh (by simp [powInf, f0, f1]; decide +kernel)
 have q0 := ordQ f0
 have q1 := ordQ f1
 go_enter Tryz.func81, Tryz.ntmps81
 go_wp2_with (first | (go_at_call 110; refine (inf_up _).mono ?_; rintro e w' ⟨rfl, rfl⟩) | (go_at_call 86; refine (codd_any _ _).mono ?_; rintro e w' ⟨no, rfl, rfl⟩; rw [f2]) | (go_at_call 111; refine (copysign_any _ _ _ (by decide) (by decide)).mono ?_; rintro e w' ⟨rfl, rfl⟩))
 go_ret
 exact ⟨_, 0, rfl, HV.out, rfl⟩
theorem powInf_any (x y : Nat) (w : World) : Calls Tryz.prog 81 #[.float .f64 x, .float .f64 y] w (FRet (powInf x y) w) := by
 cases h1 : ltz x
 ·cases h2 : gtz y
  ·exact powInf_ftf x y w h1 h2
  ·exact powInf_ftt x y w h1 h2
 ·cases h2 : gtz y <;> cases h3 : oddB y
  ·exact powInf_tff x y w h1 h2 h3
  ·exact powInf_ttf x y w h1 h2 h3
  ·exact powInf_tft x y w h1 h2 h3
  ·exact powInf_ttt x y w h1 h2 h3
theorem w64_abs (x : Nat) : W64 (x % top) := by
 unfold W64
 have h := rung_lt_sw x
 have e : x % top = rung x := rfl
 rw [e]
 cases hN : isN (rung x)
 ·rw [cn_of_notN hN]; omega
 ·rw [cn_of_N hN]; decide
theorem pow_0 (x y : Nat) (w : World)  (f0 : eqz y = true) : Calls Tryz.prog 52 #[.float .f64 x, .float .f64 y] w (FRet (powS x y) w) := by
 have HV : Hid (cn 4607182418800017408 = powS x y) := qh (by simp [powS, edgeS, powRest, f0]; decide +kernel)
 have q0 := ordQ f0
 go_enter Tryz.func52, Tryz.ntmps52
 go_wp2_with fail
 go_ret
 exact ⟨_, 0, rfl, HV.out, rfl⟩
theorem pow_1 (x y : Nat) (w : World)  (f0 : eqz y = false) (f1 : eq1 x = true) : Calls Tryz.prog 52 #[.float .f64 x, .float .f64 y] w (FRet (powS x y) w) := by
 have HV : Hid (cn 4607182418800017408 = powS x y) := qh (by simp [powS, edgeS, powRest, f0, f1]; decide +kernel)
 have q0 := ordQ f0
 have q1 := ordQ f1
 go_enter Tryz.func52, Tryz.ntmps52
 go_wp2_with fail
 go_ret
 exact ⟨_, 0, rfl, HV.out, rfl⟩
theorem pow_2 (x y : Nat) (w : World)  (f0 : eqz y = false) (f1 : eq1 x = false) (f2 : isN x = true) : Calls Tryz.prog 52 #[.float .f64 x, .float .f64 y] w (FRet (powS x y) w) := by
 have HV : Hid (cn 9221120237041090561 = powS x y) := qh (by simp [powS, edgeS, powRest, f0, f1, f2]; decide +kernel)
 have q0 := ordQ f0
 have q1 := ordQ f1
 go_enter Tryz.func52, Tryz.ntmps52
 go_wp2_with (first | (go_at_call 75; refine (isnan_any _ _).mono ?_; rintro e w' ⟨rfl, rfl⟩; first | rw [f2] | rw [f3]) | (go_at_call 76; refine (nan_any _).mono ?_; rintro e w' ⟨rfl, rfl⟩))
 go_ret
 exact ⟨_, 0, rfl, HV.out, rfl⟩
theorem pow_3 (x y : Nat) (w : World)  (f0 : eqz y = false) (f1 : eq1 x = false) (f2 : isN x = false) (f3 : isN y = true) : Calls Tryz.prog 52 #[.float .f64 x, .float .f64 y] w (FRet (powS x y) w) := by
 have HV : Hid (cn 9221120237041090561 = powS x y) := qh (by simp [powS, edgeS, powRest, f0, f1, f2, f3]; decide +kernel)
 have q0 := ordQ f0
 have q1 := ordQ f1
 go_enter Tryz.func52, Tryz.ntmps52
 go_wp2_with (first | (go_at_call 75; refine (isnan_any _ _).mono ?_; rintro e w' ⟨rfl, rfl⟩; first | rw [f2] | rw [f3]) | (go_at_call 76; refine (nan_any _).mono ?_; rintro e w' ⟨rfl, rfl⟩))
 go_ret
 exact ⟨_, 0, rfl, HV.out, rfl⟩
theorem pow_4 (x y : Nat) (w : World)  (f0 : eqz y = false) (f1 : eq1 x = false) (f2 : isN x = false) (f3 : isN y = false) (f4 : finf (cn y) = true) : Calls Tryz.prog 52 #[.float .f64 x, .float .f64 y] w (FRet (powS x y) w) := by
 have HV : Hid (powFar x y = powS x y) := qh (by simp [powS, edgeS, powRest, f0, f1, f2, f3, f4])
 have q0 := ordQ f0
 have q1 := ordQ f1
 have qg : (FloatKind.f64.format.order y 0 == some .gt) = gtz y := rfl
 go_enter Tryz.func52, Tryz.ntmps52
 go_wp2_with (first | (go_at_call 75; refine (isnan_any _ _).mono ?_; rintro e w' ⟨rfl, rfl⟩; first | rw [f2] | rw [f3]) | (go_at_call 77; refine (infinite_any _ _).mono ?_; rintro e w' ⟨rfl, rfl⟩; first | rw [f4] | rw [f6]) | (go_at_call 79; refine (abs_any _ _).mono ?_; rintro e w' ⟨rfl, rfl⟩) | (go_at_call 78; refine (powFar_any _ _ _).mono ?_; rintro e w' ⟨rs, ns, rfl, hrs, rfl⟩; have HRS := qh hrs; clear hrs))
 go_ret
 exact ⟨_, _, rfl, HRS.out.trans HV.out, by first | rfl | (simp only [World.drewN_drewN]; rfl)⟩
theorem pow_5 (x y : Nat) (w : World) (hx : x < 18446744073709551616) (f0 : eqz y = false) (f1 : eq1 x = false) (f2 : isN x = false) (f3 : isN y = false) (f4 : finf (cn y) = false) (f5 : eqz x = true) : Calls Tryz.prog 52 #[.float .f64 x, .float .f64 y] w (FRet (powS x y) w) := by
 have HV : Hid (powNought x y = powS x y) := qh (by simp [powS, edgeS, powRest, f0, f1, f2, f3, f4, f5])
 have q0 := ordQ f0
 have q1 := ordQ f1
 have q5 := ordQ f5
 have HX := qh hx
 have HNX := qh f2
 clear hx
 go_enter Tryz.func52, Tryz.ntmps52
 go_wp2_with (first | (go_at_call 75; refine (isnan_any _ _).mono ?_; rintro e w' ⟨rfl, rfl⟩; first | rw [f2] | rw [f3]) | (go_at_call 77; refine (infinite_any _ _).mono ?_; rintro e w' ⟨rfl, rfl⟩; first | rw [f4] | rw [f6]) | (go_at_call 79; refine (abs_any _ _).mono ?_; rintro e w' ⟨rfl, rfl⟩) | (go_at_call 80; refine (powNought_any _ _ _ HX.out HNX.out).mono ?_; rintro e w' ⟨rs, ns, rfl, hrs, rfl⟩; have HRS := qh hrs; clear hrs))
 go_ret
 exact ⟨_, _, rfl, HRS.out.trans HV.out, by first | rfl | (simp only [World.drewN_drewN]; rfl)⟩
theorem pow_6 (x y : Nat) (w : World)  (f0 : eqz y = false) (f1 : eq1 x = false) (f2 : isN x = false) (f3 : isN y = false) (f4 : finf (cn y) = false) (f5 : eqz x = false) (f6 : finf (cn x) = true) : Calls Tryz.prog 52 #[.float .f64 x, .float .f64 y] w (FRet (powS x y) w) := by
 have HV : Hid (powInf x y = powS x y) := qh (by simp [powS, edgeS, powRest, f0, f1, f2, f3, f4, f5, f6])
 have q0 := ordQ f0
 have q1 := ordQ f1
 have q5 := ordQ f5
 go_enter Tryz.func52, Tryz.ntmps52
 go_wp2_with (first | (go_at_call 75; refine (isnan_any _ _).mono ?_; rintro e w' ⟨rfl, rfl⟩; first | rw [f2] | rw [f3]) | (go_at_call 77; refine (infinite_any _ _).mono ?_; rintro e w' ⟨rfl, rfl⟩; first | rw [f4] | rw [f6]) | (go_at_call 79; refine (abs_any _ _).mono ?_; rintro e w' ⟨rfl, rfl⟩) | (go_at_call 81; refine (powInf_any _ _ _).mono ?_; rintro e w' ⟨rs, ns, rfl, hrs, rfl⟩; have HRS := qh hrs; clear hrs))
 go_ret
 exact ⟨_, _, rfl, HRS.out.trans HV.out, by first | rfl | (simp only [World.drewN_drewN]; rfl)⟩
theorem pow_7 (x y : Nat) (w : World)  (f0 : eqz y = false) (f1 : eq1 x = false) (f2 : isN x = false) (f3 : isN y = false) (f4 : finf (cn y) = false) (f5 : eqz x = false) (f6 : finf (cn x) = false) (f7 : wholeB y = true) (f8 : absLe y = true) : Calls Tryz.prog 52 #[.float .f64 x, .float .f64 y] w (FRet (powS x y) w) := by
 have HV : Hid (powW x y = powS x y) := qh (by simp [powS, edgeS, powRest, f0, f1, f2, f3, f4, f5, f6, f7, f8])
 have q0 := ordQ f0
 have q1 := ordQ f1
 have q5 := ordQ f5
 have q8 : (FloatKind.f64.format.order (y % top) 4652218415073722368 == some .lt || FloatKind.f64.format.order (y % top) 4652218415073722368 == some .eq) = true := f8
 have HAL := qh f8
 go_enter Tryz.func52, Tryz.ntmps52
 go_wp2_with (first | (go_at_call 75; refine (isnan_any _ _).mono ?_; rintro e w' ⟨rfl, rfl⟩; first | rw [f2] | rw [f3]) | (go_at_call 77; refine (infinite_any _ _).mono ?_; rintro e w' ⟨rfl, rfl⟩; first | rw [f4] | rw [f6]) | (go_at_call 79; refine (abs_any _ _).mono ?_; rintro e w' ⟨rfl, rfl⟩) | (go_at_call 82; refine (cwhole2_any _ _).mono ?_; rintro e w' ⟨nw, rfl, rfl⟩; rw [f7]) | (go_at_call 83; refine (powWhole_any _ _ _ HAL.out).mono ?_; rintro e w' ⟨rs, ns, rfl, hrs, rfl⟩; have HRS := qh hrs; clear hrs))
 go_ret
 exact ⟨_, _, rfl, HRS.out.trans HV.out, by first | rfl | (simp only [World.drewN_drewN]; rfl)⟩
theorem pow_8tt (x y : Nat) (w : World)  (f0 : eqz y = false) (f1 : eq1 x = false) (f2 : isN x = false) (f3 : isN y = false) (f4 : finf (cn y) = false) (f5 : eqz x = false) (f6 : finf (cn x) = false) (f7 : wholeB y = true) (f8 : absLe y = false) (f9 : ltz x = true) (f10 : oddB y = true) : Calls Tryz.prog 52 #[.float .f64 x, .float .f64 y] w (FRet (powS x y) w) := by
 have HV : Hid (fneg (powE x y) = powS x y) := qh (by simp [powS, edgeS, powRest, f0, f1, f2, f3, f4, f5, f6, f7, f8, f9, f10])
 have q0 := ordQ f0
 have q1 := ordQ f1
 have q5 := ordQ f5
 have q8 : (FloatKind.f64.format.order (y % top) 4652218415073722368 == some .lt || FloatKind.f64.format.order (y % top) 4652218415073722368 == some .eq) = false := f8
 have q9 := ordQ f9
 go_enter Tryz.func52, Tryz.ntmps52
 go_wp2_with (first | (go_at_call 75; refine (isnan_any _ _).mono ?_; rintro e w' ⟨rfl, rfl⟩; first | rw [f2] | rw [f3]) | (go_at_call 77; refine (infinite_any _ _).mono ?_; rintro e w' ⟨rfl, rfl⟩; first | rw [f4] | rw [f6]) | (go_at_call 79; refine (abs_any _ _).mono ?_; rintro e w' ⟨rfl, rfl⟩) | (go_at_call 82; refine (cwhole2_any _ _).mono ?_; rintro e w' ⟨nw, rfl, rfl⟩; rw [f7]) | (go_at_call 85; refine (ln_any _ _ (w64_abs x)).mono ?_; rintro e w' ⟨rl, nl, rfl, hrl, rfl⟩; have HRL := qh hrl; clear hrl) | (refine wpList_fop .mul _ _ _ _ y rl rfl rfl rfl ?_; intro rm nm hrm; have HRM := qh hrm; clear hrm) | (go_at_call 84; refine (exp_any _ _).mono ?_; rintro e w' ⟨rv, nv, rfl, hrv, rfl⟩; have HRV := qh hrv; clear hrv) | (go_at_call 86; refine (codd_any _ _).mono ?_; rintro e w' ⟨no, rfl, rfl⟩; rw [f10]) | simp only [neg_run])
 go_ret
 exact ⟨_, _, rfl, by rw [← HV.out, cn_neg, HRV.out, HRM.out, HRL.out]; rfl, by first | rfl | (simp only [World.drewN_drewN]; rfl)⟩
theorem pow_8tf (x y : Nat) (w : World)  (f0 : eqz y = false) (f1 : eq1 x = false) (f2 : isN x = false) (f3 : isN y = false) (f4 : finf (cn y) = false) (f5 : eqz x = false) (f6 : finf (cn x) = false) (f7 : wholeB y = true) (f8 : absLe y = false) (f9 : ltz x = true) (f10 : oddB y = false) : Calls Tryz.prog 52 #[.float .f64 x, .float .f64 y] w (FRet (powS x y) w) := by
 have HV : Hid (powE x y = powS x y) := qh (by simp [powS, edgeS, powRest, f0, f1, f2, f3, f4, f5, f6, f7, f8, f9, f10])
 have q0 := ordQ f0
 have q1 := ordQ f1
 have q5 := ordQ f5
 have q8 : (FloatKind.f64.format.order (y % top) 4652218415073722368 == some .lt || FloatKind.f64.format.order (y % top) 4652218415073722368 == some .eq) = false := f8
 have q9 := ordQ f9
 go_enter Tryz.func52, Tryz.ntmps52
 go_wp2_with (first | (go_at_call 75; refine (isnan_any _ _).mono ?_; rintro e w' ⟨rfl, rfl⟩; first | rw [f2] | rw [f3]) | (go_at_call 77; refine (infinite_any _ _).mono ?_; rintro e w' ⟨rfl, rfl⟩; first | rw [f4] | rw [f6]) | (go_at_call 79; refine (abs_any _ _).mono ?_; rintro e w' ⟨rfl, rfl⟩) | (go_at_call 82; refine (cwhole2_any _ _).mono ?_; rintro e w' ⟨nw, rfl, rfl⟩; rw [f7]) | (go_at_call 85; refine (ln_any _ _ (w64_abs x)).mono ?_; rintro e w' ⟨rl, nl, rfl, hrl, rfl⟩; have HRL := qh hrl; clear hrl) | (refine wpList_fop .mul _ _ _ _ y rl rfl rfl rfl ?_; intro rm nm hrm; have HRM := qh hrm; clear hrm) | (go_at_call 84; refine (exp_any _ _).mono ?_; rintro e w' ⟨rv, nv, rfl, hrv, rfl⟩; have HRV := qh hrv; clear hrv) | (go_at_call 86; refine (codd_any _ _).mono ?_; rintro e w' ⟨no, rfl, rfl⟩; rw [f10]) | simp only [neg_run])
 go_ret
 exact ⟨_, _, rfl, by rw [← HV.out, HRV.out, HRM.out, HRL.out]; rfl, by first | rfl | (simp only [World.drewN_drewN]; rfl)⟩
theorem pow_8f (x y : Nat) (w : World)  (f0 : eqz y = false) (f1 : eq1 x = false) (f2 : isN x = false) (f3 : isN y = false) (f4 : finf (cn y) = false) (f5 : eqz x = false) (f6 : finf (cn x) = false) (f7 : wholeB y = true) (f8 : absLe y = false) (f9 : ltz x = false) : Calls Tryz.prog 52 #[.float .f64 x, .float .f64 y] w (FRet (powS x y) w) := by
 have HV : Hid (powE x y = powS x y) := qh (by simp [powS, edgeS, powRest, f0, f1, f2, f3, f4, f5, f6, f7, f8, f9])
 have q0 := ordQ f0
 have q1 := ordQ f1
 have q5 := ordQ f5
 have q8 : (FloatKind.f64.format.order (y % top) 4652218415073722368 == some .lt || FloatKind.f64.format.order (y % top) 4652218415073722368 == some .eq) = false := f8
 have q9 := ordQ f9
 go_enter Tryz.func52, Tryz.ntmps52
 go_wp2_with (first | (go_at_call 75; refine (isnan_any _ _).mono ?_; rintro e w' ⟨rfl, rfl⟩; first | rw [f2] | rw [f3]) | (go_at_call 77; refine (infinite_any _ _).mono ?_; rintro e w' ⟨rfl, rfl⟩; first | rw [f4] | rw [f6]) | (go_at_call 79; refine (abs_any _ _).mono ?_; rintro e w' ⟨rfl, rfl⟩) | (go_at_call 82; refine (cwhole2_any _ _).mono ?_; rintro e w' ⟨nw, rfl, rfl⟩; rw [f7]) | (go_at_call 85; refine (ln_any _ _ (w64_abs x)).mono ?_; rintro e w' ⟨rl, nl, rfl, hrl, rfl⟩; have HRL := qh hrl; clear hrl) | (refine wpList_fop .mul _ _ _ _ y rl rfl rfl rfl ?_; intro rm nm hrm; have HRM := qh hrm; clear hrm) | (go_at_call 84; refine (exp_any _ _).mono ?_; rintro e w' ⟨rv, nv, rfl, hrv, rfl⟩; have HRV := qh hrv; clear hrv) | (go_at_call 86; refine (codd_any _ _).mono ?_; rintro e w' ⟨no, rfl, rfl⟩; rw [f7]) | simp only [neg_run])
 go_ret
 exact ⟨_, _, rfl, by rw [← HV.out, HRV.out, HRM.out, HRL.out]; rfl, by first | rfl | (simp only [World.drewN_drewN]; rfl)⟩
theorem pow_9t (x y : Nat) (w : World)  (f0 : eqz y = false) (f1 : eq1 x = false) (f2 : isN x = false) (f3 : isN y = false) (f4 : finf (cn y) = false) (f5 : eqz x = false) (f6 : finf (cn x) = false) (f7 : wholeB y = false) (f8 : ltz x = true) : Calls Tryz.prog 52 #[.float .f64 x, .float .f64 y] w (FRet (powS x y) w) := by
 have HV : Hid (cn 9221120237041090561 = powS x y) := qh (by simp [powS, edgeS, powRest, f0, f1, f2, f3, f4, f5, f6, f7, f8]; decide +kernel)
 have q0 := ordQ f0
 have q1 := ordQ f1
 have q5 := ordQ f5
 have q8 := ordQ f8
 go_enter Tryz.func52, Tryz.ntmps52
 go_wp2_with (first | (go_at_call 75; refine (isnan_any _ _).mono ?_; rintro e w' ⟨rfl, rfl⟩; first | rw [f2] | rw [f3]) | (go_at_call 77; refine (infinite_any _ _).mono ?_; rintro e w' ⟨rfl, rfl⟩; first | rw [f4] | rw [f6]) | (go_at_call 79; refine (abs_any _ _).mono ?_; rintro e w' ⟨rfl, rfl⟩) | (go_at_call 82; refine (cwhole2_any _ _).mono ?_; rintro e w' ⟨nw, rfl, rfl⟩; rw [f7]) | (go_at_call 76; refine (nan_any _).mono ?_; rintro e w' ⟨rfl, rfl⟩))
 go_ret
 exact ⟨_, _, rfl, HV.out, by first | rfl | (simp only [World.drewN_drewN]; rfl)⟩
theorem pow_9f (x y : Nat) (w : World)  (f0 : eqz y = false) (f1 : eq1 x = false) (f2 : isN x = false) (f3 : isN y = false) (f4 : finf (cn y) = false) (f5 : eqz x = false) (f6 : finf (cn x) = false) (f7 : wholeB y = false) (f8 : ltz x = false) : Calls Tryz.prog 52 #[.float .f64 x, .float .f64 y] w (FRet (powS x y) w) := by
 have HV : Hid (powE x y = powS x y) := qh (by simp [powS, edgeS, powRest, f0, f1, f2, f3, f4, f5, f6, f7, f8])
 have q0 := ordQ f0
 have q1 := ordQ f1
 have q5 := ordQ f5
 have q8 := ordQ f8
 go_enter Tryz.func52, Tryz.ntmps52
 go_wp2_with (first | (go_at_call 75; refine (isnan_any _ _).mono ?_; rintro e w' ⟨rfl, rfl⟩; first | rw [f2] | rw [f3]) | (go_at_call 77; refine (infinite_any _ _).mono ?_; rintro e w' ⟨rfl, rfl⟩; first | rw [f4] | rw [f6]) | (go_at_call 79; refine (abs_any _ _).mono ?_; rintro e w' ⟨rfl, rfl⟩) | (go_at_call 82; refine (cwhole2_any _ _).mono ?_; rintro e w' ⟨nw, rfl, rfl⟩; rw [f7]) | (go_at_call 85; refine (ln_any _ _ (w64_abs x)).mono ?_; rintro e w' ⟨rl, nl, rfl, hrl, rfl⟩; have HRL := qh hrl; clear hrl) | (refine wpList_fop .mul _ _ _ _ y rl rfl rfl rfl ?_; intro rm nm hrm; have HRM := qh hrm; clear hrm) | (go_at_call 84; refine (exp_any _ _).mono ?_; rintro e w' ⟨rv, nv, rfl, hrv, rfl⟩; have HRV := qh hrv; clear hrv) | (go_at_call 86; refine (codd_any _ _).mono ?_; rintro e w' ⟨no, rfl, rfl⟩; rw [f7]) | simp only [neg_run])
 go_ret
 exact ⟨_, _, rfl, by rw [← HV.out, HRV.out, HRM.out, HRL.out]; rfl, by first | rfl | (simp only [World.drewN_drewN]; rfl)⟩
theorem pow_any (x y : Nat) (w : World) (h64 : W64 x) : Calls Tryz.prog 52 #[.float .f64 x, .float .f64 y] w (FRet (powS x y) w) := by
 cases f0 : eqz y
 case true => exact pow_0 x y w f0
 cases f1 : eq1 x
 case true => exact pow_1 x y w f0 f1
 cases f2 : isN x
 case true => exact pow_2 x y w f0 f1 f2
 cases f3 : isN y
 case true => exact pow_3 x y w f0 f1 f2 f3
 cases f4 : finf (cn y)
 case true => exact pow_4 x y w f0 f1 f2 f3 f4
 cases f5 : eqz x
 case true => exact pow_5 x y w (by unfold W64 at h64; rwa [cn_of_notN f2] at h64) f0 f1 f2 f3 f4 f5
 cases f6 : finf (cn x)
 case true => exact pow_6 x y w f0 f1 f2 f3 f4 f5 f6
 cases f7 : wholeB y
 ·cases f8 : ltz x
  ·exact pow_9f x y w f0 f1 f2 f3 f4 f5 f6 f7 f8
  ·exact pow_9t x y w f0 f1 f2 f3 f4 f5 f6 f7 f8
 ·cases f8 : absLe y
  ·cases f9 : ltz x
   ·exact pow_8f x y w f0 f1 f2 f3 f4 f5 f6 f7 f8 f9
   ·cases f10 : oddB y
    ·exact pow_8tf x y w f0 f1 f2 f3 f4 f5 f6 f7 f8 f9 f10
    ·exact pow_8tt x y w f0 f1 f2 f3 f4 f5 f6 f7 f8 f9 f10
  ·exact pow_7 x y w f0 f1 f2 f3 f4 f5 f6 f7 f8
end Go.Proofs.YtmmfjknnbkcniaaGreatDoor
