/- How far the series of the exponential and of the logarithm are from their exact sums. -/
import Derived.Test.YtllphokepjekpaaBackA
namespace Go.Fl
open Ieee

theorem eps_pos : 0 < eps := by unfold eps; decide +kernel
theorem eta_eps : 0 ≤ eta ∧ eta ≤ eps / 1000000 := by
  have h := eta_lt
  have h0 := eta_small.1
  have hε : eps * 4503599627370496 = 1 := by unfold eps; grind
  constructor <;> grind

/-- One step of the exponential's series. -/
theorem ser_err_step {r s : Nat} {q : Rat} (hr : isF r) (r1 : -(1 / 2) ≤ fv r) (r2 : fv r ≤ 1 / 2) (hs : isF s) (s1 : 1 / 2 ≤ fv s) (s2 : fv s ≤ 3 / 2) (i : Int) (i1 : 1 ≤ i) (i2 : i ≤ 100)
    (e1 : fv s - q ≤ 8 * eps) (e2 : q - fv s ≤ 8 * eps) :
    fv (fadd w1 (fdiv (fmul r s) (wz i))) - (1 + fv r * q / ((i : Int) : Rat)) ≤ 8 * eps ∧ (1 + fv r * q / ((i : Int) : Rat)) - fv (fadd w1 (fdiv (fmul r s) (wz i))) ≤ 8 * eps := by
  obtain ⟨f34, g34, f12, f32, f14, f74, v34, u34, v12, v32, v14, v74⟩ := lits2
  obtain ⟨fw, vw⟩ := fv_one
  obtain ⟨fi, vi⟩ := fv_wz (z := i) (by omega)
  have hp0 := eps_pos
  obtain ⟨ha0, ha1⟩ := eta_eps
  have p := mul_bd (A := 1 / 2) (B := 3 / 2) r1 r2 (show -(3 / 2) ≤ fv s by grind) s2
  have hp := mul_rd hr hs
  have fp : isF (fmul r s) := hp.fin n34 c34 g34 f34 (by grind) (by grind)
  have p1 := hp.ge n34 g34 fp (by grind)
  have p2 := hp.le c34 f34 fp (by grind)
  have n1 := hp.near (3 / 4) (by grind) (by grind) fp
  have iq : (1 : Rat) ≤ ((i : Int) : Rat) := by
    have := Rat.intCast_le_intCast.2 i1
    exact this
  have ui : uv (wz i) ≠ 0 := fun h => by
    have : fv (wz i) = 0 := by unfold fv; rw [h]; grind
    grind
  have hd := div_rd fp fi ui
  rw [vi] at hd
  generalize fmul r s = P at *
  have ip : (0 : Rat) < ((i : Int) : Rat) := by grind
  have hcan : fv P / ((i : Int) : Rat) * ((i : Int) : Rat) = fv P := div_cancel ip
  have hcan2 : fv r * q / ((i : Int) : Rat) * ((i : Int) : Rat) = fv r * q := div_cancel ip
  generalize fv r * q / ((i : Int) : Rat) = v at *
  generalize fv P / ((i : Int) : Rat) = d at *
  have d1 : d ≤ 3 / 4 := by
    refine le_of_mul_le ip ?_
    rw [hcan]; grind
  have d2 : -(3 / 4) ≤ d := by
    refine le_of_mul_le ip ?_
    rw [hcan]; grind
  obtain ⟨fq, _, _, _, _⟩ := hd.bd 1 (by omega) (by show -1 ≤ _; grind) (by show _ ≤ 1; grind)
  have q1 := hd.ge n34 g34 fq (by grind)
  have q2 := hd.le c34 f34 fq (by grind)
  have nr := hd.near (3 / 4) d2 d1 fq
  generalize fdiv P (wz i) = Dw at *
  have ha := add_rd fw fq
  obtain ⟨fa, _, _, _, _⟩ := ha.bd 2 (by omega) (by show -2 ≤ _; grind) (by show _ ≤ 2; grind)
  have na := ha.near 2 (by grind) (by grind) fa
  have p3 := mul_bd (A := 1 / 2) (B := 8 * eps) r1 r2 (show -(8 * eps) ≤ fv s - q by grind) (show fv s - q ≤ 8 * eps by grind)
  have e3 : fv r * (fv s - q) = fv r * fv s - fv r * q := by grind
  obtain ⟨M, hM⟩ : ∃ M : Rat, M = 5 * eps := ⟨_, rfl⟩
  have hMi : 0 ≤ M * (((i : Int) : Rat) - 1) := Rat.mul_nonneg (by grind) (by grind)
  have k1 : d - v ≤ M := by
    refine le_of_mul_le ip ?_
    have : (d - v) * ((i : Int) : Rat) = fv P - fv r * q := by grind
    rw [this]
    have e4 : M * (((i : Int) : Rat) - 1) = M * ((i : Int) : Rat) - M := by grind
    grind
  have k2 : v - d ≤ M := by
    refine le_of_mul_le ip ?_
    have : (v - d) * ((i : Int) : Rat) = fv r * q - fv P := by grind
    rw [this]
    have e4 : M * (((i : Int) : Rat) - 1) = M * ((i : Int) : Rat) - M := by grind
    grind
  constructor <;> grind

theorem ser_err {r : Nat} (hr : isF r) (r1 : -(1 / 2) ≤ fv r) (r2 : fv r ≤ 1 / 2) : ∀ j : Nat, j ≤ 14 → fv (expSer r j) - exq (fv r) j ≤ 8 * eps ∧ exq (fv r) j - fv (expSer r j) ≤ 8 * eps
  | 0, _ => by
    obtain ⟨fw, vw⟩ := fv_one
    have hp0 := eps_pos
    show fv w1 - 1 ≤ _ ∧ 1 - fv w1 ≤ _
    constructor <;> grind
  | j + 1, h => by
    obtain ⟨a, b⟩ := ser_err hr r1 r2 j (by omega)
    obtain ⟨f, c, d⟩ := ser_in hr r1 r2 j (by omega)
    exact ser_err_step hr r1 r2 f c d (14 - (j : Int)) (by omega) (by omega) a b

/-- The logarithm's inner sum. -/
theorem sp_err {Zw : Nat} {z2 : Rat} (hZ : isF Zw) (z0 : 0 ≤ z2) (z1 : z2 ≤ 296 / 10000) (a1 : fv Zw - z2 ≤ 4 / 10 * eps) (a2 : z2 - fv Zw ≤ 4 / 10 * eps) :
    ∀ j : Nat, j ≤ 12 → isF (serP Zw j) ∧ fv (serP Zw j) - spq z2 j ≤ eps / 4 ∧ spq z2 j - fv (serP Zw j) ≤ eps / 4 ∧ 0 ≤ spq z2 j ∧ spq z2 j ≤ 1 / 80
  | 0, _ => by
    obtain ⟨f0, v0⟩ := fv_zero
    have hp0 := eps_pos
    refine ⟨f0, ?_, ?_, ?_, ?_⟩ <;> simp only [spq, serP] <;> grind
  | j + 1, h => by
    obtain ⟨f, b1, b2, b3, b4⟩ := sp_err hZ z0 z1 a1 a2 j (by omega)
    obtain ⟨fw, vw⟩ := fv_one
    have hp0 := eps_pos
    have hε : eps * 4503599627370496 = 1 := by unfold eps; grind
    obtain ⟨ha0, ha1⟩ := eta_eps
    obtain ⟨i, hi⟩ : ∃ i : Int, i = 2 * (12 - (j : Int)) + 1 := ⟨_, rfl⟩
    rw [serP, spq, ← hi]
    obtain ⟨fi, vi⟩ := fv_wz (z := i) (by omega)
    have iq : (3 : Rat) ≤ ((i : Int) : Rat) := Rat.intCast_le_intCast.2 (show (3 : Int) ≤ i by omega)
    have ui : uv (wz i) ≠ 0 := fun h => by
      have : fv (wz i) = 0 := by unfold fv; rw [h]; grind
      grind
    have hd := div_rd fw fi ui
    rw [vi, vw] at hd
    have ip : (0 : Rat) < ((i : Int) : Rat) := by grind
    have hcan : 1 / ((i : Int) : Rat) * ((i : Int) : Rat) = 1 := div_cancel ip
    generalize 1 / ((i : Int) : Rat) = c at *
    have c1 : c ≤ 1 / 3 := by
      refine le_of_mul_le ip ?_
      rw [hcan]; grind
    have c2 : 0 ≤ c := by
      refine le_of_mul_le ip ?_
      rw [hcan]; grind
    obtain ⟨fq, _, _, _, _⟩ := hd.bd 1 (by omega) (by show -1 ≤ _; grind) (by show _ ≤ 1; grind)
    have n1 := hd.near (1 / 3) (by grind) c1 fq
    generalize fdiv w1 (wz i) = Qw at *
    have ha := add_rd fq f
    generalize serP Zw j = Pw at *
    generalize spq z2 j = p at *
    obtain ⟨fA, _, _, _, _⟩ := ha.bd 1 (by omega) (by show -1 ≤ _; grind) (by show _ ≤ 1; grind)
    have n2 := ha.near (2 / 5) (by grind) (by grind) fA
    generalize fadd Qw Pw = Aw at *
    have hm := mul_rd hZ fA
    have m1 := mul_bd (A := 31 / 1000) (B := 4 / 10) (show -(31 / 1000) ≤ fv Zw by grind) (show fv Zw ≤ 31 / 1000 by grind) (show -(4 / 10) ≤ fv Aw by grind) (show fv Aw ≤ 4 / 10 by grind)
    obtain ⟨fR, _, _, _, _⟩ := hm.bd 1 (by omega) (by show -1 ≤ _; grind) (by show _ ≤ 1; grind)
    have n3 := hm.near (1 / 80) (by grind) (by grind) fR
    have m2 := mul_bd (A := 31 / 1000) (B := eps) (show -(31 / 1000) ≤ fv Zw by grind) (show fv Zw ≤ 31 / 1000 by grind) (show -eps ≤ fv Aw - (c + p) by grind) (show fv Aw - (c + p) ≤ eps by grind)
    have m3 := mul_bd (A := 4 / 10 * eps) (B := 35 / 100) (show -(4 / 10 * eps) ≤ fv Zw - z2 by grind) (show fv Zw - z2 ≤ 4 / 10 * eps by grind) (show -(35 / 100) ≤ c + p by grind) (show c + p ≤ 35 / 100 by grind)
    have key : fv Zw * fv Aw - z2 * (c + p) = fv Zw * (fv Aw - (c + p)) + (fv Zw - z2) * (c + p) := by grind
    have m4 := mul_bd (A := 296 / 10000) (B := 346 / 1000) (show -(296 / 10000) ≤ z2 by grind) z1 (show -(346 / 1000) ≤ c + p by grind) (show c + p ≤ 346 / 1000 by grind)
    have m5 : 0 ≤ z2 * (c + p) := Rat.mul_nonneg z0 (by grind)
    refine ⟨fR, ?_, ?_, m5, ?_⟩ <;> grind

/-- The logarithm's series. -/
theorem ln_err {m : Nat} {z : Rat} (hm : isF m) (m1 : 7071 / 10000 ≤ fv m) (m2 : fv m ≤ 14143 / 10000) (hz : z * (fv m + 1) = fv m - 1) :
    isF (lnSer m) ∧ fv (lnSer m) - lnq z ≤ 3 * eps ∧ lnq z - fv (lnSer m) ≤ 3 * eps ∧ -(172 / 1000) ≤ z ∧ z ≤ 172 / 1000 ∧ -(36 / 100) ≤ lnq z ∧ lnq z ≤ 36 / 100 := by
  obtain ⟨fw, vw⟩ := fv_one
  have hp0 := eps_pos
  have hε : eps * 4503599627370496 = 1 := by unfold eps; grind
  obtain ⟨ha0, ha1⟩ := eta_eps
  have f2 : isF cTwo := isF_small (by decide)
  have v2 : fv cTwo = 2 := by rw [show cTwo = wz 2 by decide +kernel]; exact (fv_wz (z := 2) (by decide)).2
  have mp : (0 : Rat) < fv m + 1 := by grind
  have zb1 : z ≤ 172 / 1000 := by
    refine le_of_mul_le mp ?_
    rw [hz]; grind
  have zb0 : -(172 / 1000) ≤ z := by
    refine le_of_mul_le mp ?_
    rw [hz]; grind
  unfold lnSer lnS0
  -- t
  have ht := sub_rd hm fw
  obtain ⟨ft, _, _, _, _⟩ := ht.bd 1 (by omega) (by show -1 ≤ _; grind) (by show _ ≤ 1; grind)
  have nt := ht.near (1 / 2) (by grind) (by grind) ft
  generalize fsub m w1 = t at *
  -- u
  have hu := add_rd f2 ft
  obtain ⟨fu, _, _, _, _⟩ := hu.bd 3 (by omega) (by show -3 ≤ _; grind) (by show _ ≤ 3; grind)
  have nu := hu.near 3 (by grind) (by grind) fu
  generalize fadd cTwo t = u at *
  have ub : 17 / 10 ≤ fv u := by grind
  have up : (0 : Rat) < fv u := by grind
  have uu : uv u ≠ 0 := fun h => by
    have : fv u = 0 := by unfold fv; rw [h]; grind
    grind
  -- s
  have hs := div_rd ft fu uu
  have hcan : fv t / fv u * fv u = fv t := div_cancel up
  generalize fv t / fv u = d at *
  obtain ⟨δ1, hδ1⟩ : ∃ δ1 : Rat, δ1 = fv t - (fv m - 1) := ⟨_, rfl⟩
  obtain ⟨δ2, hδ2⟩ : ∃ δ2 : Rat, δ2 = fv u - (2 + fv t) := ⟨_, rfl⟩
  have b1 := mul_bd (A := 172 / 1000) (B := 36 / 10 * eps) zb0 zb1 (show -(36 / 10 * eps) ≤ δ1 + δ2 by grind) (show δ1 + δ2 ≤ 36 / 10 * eps by grind)
  have key : (d - z) * fv u = δ1 - z * (δ1 + δ2) := by
    have e1 : fv u = fv m + 1 + (δ1 + δ2) := by grind
    have e2 : z * fv u = z * (fv m + 1) + z * (δ1 + δ2) := by rw [e1]; grind
    have e3 : (d - z) * fv u = fv t - z * fv u := by grind
    rw [e3, e2, hz]
    grind
  have dz1 : d - z ≤ 72 / 100 * eps := by
    refine le_of_mul_le up ?_
    rw [key]
    have : 0 ≤ 72 / 100 * eps * (fv u - 17 / 10) := Rat.mul_nonneg (by grind) (by grind)
    grind
  have dz2 : -(72 / 100 * eps) ≤ d - z := by
    refine le_of_mul_le up ?_
    rw [key]
    have : 0 ≤ 72 / 100 * eps * (fv u - 17 / 10) := Rat.mul_nonneg (by grind) (by grind)
    grind
  obtain ⟨fs, _, _, _, _⟩ := hs.bd 1 (by omega) (by show -1 ≤ _; grind) (by show _ ≤ 1; grind)
  have ns := hs.near (1 / 4) (by grind) (by grind) fs
  generalize fdiv t u = s at *
  have sz1 : fv s - z ≤ eps := by grind
  have sz2 : z - fv s ≤ eps := by grind
  -- z
  have hzz := mul_rd fs fs
  have q1 := mul_bd (A := 1721 / 10000) (B := 1721 / 10000) (show -(1721 / 10000) ≤ fv s by grind) (show fv s ≤ 1721 / 10000 by grind) (show -(1721 / 10000) ≤ fv s by grind) (show fv s ≤ 1721 / 10000 by grind)
  obtain ⟨fz, _, _, _, _⟩ := hzz.bd 1 (by omega) (by show -1 ≤ _; grind) (by show _ ≤ 1; grind)
  have nz := hzz.near (3 / 100) (by grind) (by grind) fz
  have q2 := mul_bd (A := eps) (B := 345 / 1000) (show -eps ≤ fv s - z by grind) (show fv s - z ≤ eps by grind) (show -(345 / 1000) ≤ fv s + z by grind) (show fv s + z ≤ 345 / 1000 by grind)
  have e4 : (fv s - z) * (fv s + z) = fv s * fv s - z * z := by grind
  have q3 := mul_bd zb0 zb1 zb0 zb1
  have q4 : 0 ≤ z * z := by
    rcases Rat.le_total (a := 0) (b := z) with h | h
    · exact Rat.mul_nonneg h h
    · have := Rat.mul_nonneg (a := -z) (b := -z) (by grind) (by grind)
      grind
  obtain ⟨fP, p1, p2, p3, p4⟩ := sp_err (Zw := fmul s s) (z2 := z * z) fz q4 (by grind) (by grind) (by grind) 12 (by omega)
  unfold lnq
  generalize serP (fmul s s) 12 = Pw at *
  generalize spq (z * z) 12 = p at *
  -- w
  have hw := mul_rd f2 fs
  rw [v2] at hw
  obtain ⟨fW, _, _, _, _⟩ := hw.bd 1 (by omega) (by show -1 ≤ _; grind) (by show _ ≤ 1; grind)
  have nw := hw.near (35 / 100) (by grind) (by grind) fW
  generalize fmul cTwo s = W at *
  have hwp := mul_rd fW fP
  have q5 := mul_bd (A := 35 / 100) (B := 13 / 1000) (show -(35 / 100) ≤ fv W by grind) (show fv W ≤ 35 / 100 by grind) (show -(13 / 1000) ≤ fv Pw by grind) (show fv Pw ≤ 13 / 1000 by grind)
  obtain ⟨fX, _, _, _, _⟩ := hwp.bd 1 (by omega) (by show -1 ≤ _; grind) (by show _ ≤ 1; grind)
  have nx := hwp.near (1 / 100) (by grind) (by grind) fX
  generalize fmul W Pw = Xw at *
  have hl := add_rd fW fX
  obtain ⟨fl, _, _, _, _⟩ := hl.bd 1 (by omega) (by show -1 ≤ _; grind) (by show _ ≤ 1; grind)
  have nl := hl.near (36 / 100) (by grind) (by grind) fl
  have q6 := mul_bd (A := 24 / 10 * eps) (B := 13 / 1000) (show -(24 / 10 * eps) ≤ fv W - 2 * z by grind) (show fv W - 2 * z ≤ 24 / 10 * eps by grind) (show -(13 / 1000) ≤ fv Pw by grind) (show fv Pw ≤ 13 / 1000 by grind)
  have q7 := mul_bd (A := 172 / 1000) (B := eps / 4) zb0 zb1 (show -(eps / 4) ≤ fv Pw - p by grind) (show fv Pw - p ≤ eps / 4 by grind)
  have key2 : fv W * fv Pw - 2 * z * p = (fv W - 2 * z) * fv Pw + 2 * (z * (fv Pw - p)) := by grind
  have q8 := mul_bd (A := 172 / 1000) (B := 1 / 80) zb0 zb1 (show -(1 / 80) ≤ p by grind) (show p ≤ 1 / 80 by grind)
  have e5 : 2 * z * p = 2 * (z * p) := by grind
  refine ⟨fl, ?_, ?_, zb0, zb1, ?_, ?_⟩ <;> grind

end Go.Fl
