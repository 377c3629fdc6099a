/- Back again: how far the logarithm of the exponential is from what went in. -/
import Derived.Test.YtllphokepjekpaaBackC
import Derived.Test.YtllphokepjekpaaFlMod
namespace Go.Fl
open Ieee
set_option linter.unusedVariables false

theorem lam_eq : fv cHi + fv cLo = 2 * qC := by
  obtain ⟨fL, fH, fO, f5, vL, vH, vO, v5⟩ := lits
  unfold qC
  grind

/-- What is left behind the whole multiples, and how exactly. -/
theorem red_err {x : Nat} {Y : Rat} (hx : isF x) (y1 : -Y ≤ fv x) (y2 : fv x ≤ Y) (y3 : Y ≤ 701) :
    isF (expR x) ∧ (fv (expR x) - (fv x - ((flI (expB x) : Int) : Rat) * (2 * qC)) ≤ 11 / 10 * (Y * eps) + 3 * eps ∧ (fv x - ((flI (expB x) : Int) : Rat) * (2 * qC)) - fv (expR x) ≤ 11 / 10 * (Y * eps) + 3 * eps) ∧
    (-(qC + 24 / 10 * (Y * eps) + 2 * eps) ≤ fv x - ((flI (expB x) : Int) : Rat) * (2 * qC) ∧ fv x - ((flI (expB x) : Int) : Rat) * (2 * qC) ≤ qC + 24 / 10 * (Y * eps) + 2 * eps) ∧
    (-(1443 / 1000 * Y + 2) ≤ ((flI (expB x) : Int) : Rat) ∧ ((flI (expB x) : Int) : Rat) ≤ 1443 / 1000 * Y + 2) := by
  obtain ⟨fL, fH, fO, f5, vL, vH, vO, v5⟩ := lits
  have hlam := lam_eq
  have hp0 := eps_pos
  obtain ⟨ha0, ha1⟩ := eta_eps
  have hε : eps * 4503599627370496 = 1 := by unfold eps; grind
  obtain ⟨c1, c2⟩ := qC_in
  have L1 : fv cL ≤ 1443 / 1000 := by grind
  have L0 : -(1443 / 1000) ≤ fv cL := by grind
  have H1 : fv cHi ≤ 7 / 10 := by grind
  have H0 : 0 ≤ fv cHi := by grind
  have O1 : fv cLo ≤ 1 / 10000000000 := by grind
  have O0 : 0 ≤ fv cLo := by grind
  have P : fv cL * (fv cHi + fv cLo) - 1 ≤ eps / 10 ∧ -(eps / 10) ≤ fv cL * (fv cHi + fv cLo) - 1 := by
    have eL : fv cL = 3248660424278399 / 2251799813685248 := by grind
    have eH : fv cHi = 5954088943 / 8589934592 := by grind
    have eO : fv cLo = 5756898648422637 / 77371252455336267181195264 := by grind
    rw [eL, eH, eO]
    unfold eps
    constructor <;> decide +kernel
  have Y0 : 0 ≤ Y := by grind
  obtain ⟨g, hg⟩ : ∃ g, g = Y * eps := ⟨_, rfl⟩
  have g0 : 0 ≤ g := by rw [hg]; exact Rat.mul_nonneg Y0 (by grind)
  have g1 : g ≤ 701 * eps := by
    have := Rat.mul_nonneg (show (0 : Rat) ≤ 701 - Y by grind) (show (0 : Rat) ≤ eps by grind)
    grind
  rw [← hg]
  have n1200 : nq 1200 = 1200 := rfl
  have n2000 : nq 2000 = 2000 := rfl
  -- x / ln 2
  have q1 := mul_bd (A := Y) (B := 1443 / 1000) y1 y2 L0 L1
  obtain ⟨fa, _, _, _, _⟩ := (mul_rd hx fL).bd 1200 (by omega) (by rw [n1200]; grind) (by rw [n1200]; grind)
  have na := (mul_rd hx fL).near (Y * (1443 / 1000)) q1.1 q1.2 fa
  have na1 : fv (fmul x cL) - fv x * fv cL ≤ 1443 / 1000 * g + eta := by grind
  have na2 : fv x * fv cL - fv (fmul x cL) ≤ 1443 / 1000 * g + eta := by grind
  clear na
  have hb := add_rd fa f5
  obtain ⟨fb, _, _, _, _⟩ := hb.bd 1200 (by omega) (by rw [n1200]; grind) (by rw [n1200]; grind)
  have nb := hb.near (1443 / 1000 * Y + 1) (by grind) (by grind) fb
  have eb : expB x = fadd (fmul x cL) cH5 := rfl
  rw [← eb] at fb nb
  have nb1 : fv (expB x) - (fv (fmul x cL) + fv cH5) ≤ 1443 / 1000 * g + eps + eta := by grind
  have nb2 : fv (fmul x cL) + fv cH5 - fv (expB x) ≤ 1443 / 1000 * g + eps + eta := by grind
  clear nb
  have k1 := flI_le (expB x)
  have k2 := lt_flI (expB x)
  obtain ⟨fk, vk⟩ := floor_rat fb
  have hk : expKf x = ffloor (expB x) := rfl
  rw [← hk] at fk vk
  obtain ⟨κ, hκ⟩ : ∃ κ : Rat, κ = ((flI (expB x) : Int) : Rat) := ⟨_, rfl⟩
  rw [← hκ] at k1 k2 vk ⊢
  have d1 : fv x * fv cL - κ ≤ 1 / 2 + 29 / 10 * g + 11 / 10 * eps := by grind
  have d2 : -(1 / 2 + 29 / 10 * g + 11 / 10 * eps) ≤ fv x * fv cL - κ := by grind
  have κ1 : κ ≤ 1443 / 1000 * Y + 2 := by grind
  have κ2 : -(1443 / 1000 * Y + 2) ≤ κ := by grind
  -- what is left, exactly
  have s1 := mul_bd (A := Y) (B := eps / 10) y1 y2 P.2 P.1
  have s2 := mul_bd (A := 1 / 2 + 29 / 10 * g + 11 / 10 * eps) (B := 2 * qC) d2 d1 (show -(2 * qC) ≤ fv cHi + fv cLo by grind) (show fv cHi + fv cLo ≤ 2 * qC by grind)
  have s3 : 29 / 10 * g * (2 * qC) ≤ 29 / 10 * g * (7 / 10) := by
    have := Rat.mul_nonneg (show (0 : Rat) ≤ 29 / 10 * g by grind) (show (0 : Rat) ≤ 7 / 10 - 2 * qC by grind)
    grind
  have s4 : 11 / 10 * eps * (2 * qC) ≤ 11 / 10 * eps * (7 / 10) := by
    have := Rat.mul_nonneg (show (0 : Rat) ≤ 11 / 10 * eps by grind) (show (0 : Rat) ≤ 7 / 10 - 2 * qC by grind)
    grind
  have key : fv x - κ * (2 * qC) = (fv x * fv cL - κ) * (fv cHi + fv cLo) - fv x * (fv cL * (fv cHi + fv cLo) - 1) := by rw [← hlam]; grind
  have t1 : fv x - κ * (2 * qC) ≤ qC + 24 / 10 * g + 2 * eps := by grind
  have t2 : -(qC + 24 / 10 * g + 2 * eps) ≤ fv x - κ * (2 * qC) := by grind
  -- the multiples
  have q2 := mul_bd (A := 1443 / 1000 * Y + 2) (B := 7 / 10) (show -(1443 / 1000 * Y + 2) ≤ fv (expKf x) by rw [vk]; grind) (show fv (expKf x) ≤ 1443 / 1000 * Y + 2 by rw [vk]; grind) (show -(7 / 10) ≤ fv cHi by grind) H1
  have hh := mul_rd fk fH
  obtain ⟨fh, _, _, _, _⟩ := hh.bd 1200 (by omega) (by rw [n1200]; grind) (by rw [n1200]; grind)
  have nh := hh.near ((1443 / 1000 * Y + 2) * (7 / 10)) (by grind) (by grind) fh
  have nh1 : fv (fmul (expKf x) cHi) - κ * fv cHi ≤ 102 / 100 * g + 15 / 10 * eps := by rw [vk] at nh; grind
  have nh2 : κ * fv cHi - fv (fmul (expKf x) cHi) ≤ 102 / 100 * g + 15 / 10 * eps := by rw [vk] at nh; grind
  clear nh
  have q3 := mul_bd (A := 1100) (B := 1 / 10000000000) (show -1100 ≤ fv (expKf x) by rw [vk]; grind) (show fv (expKf x) ≤ 1100 by rw [vk]; grind) (show -(1 / 10000000000) ≤ fv cLo by grind) O1
  have hl := mul_rd fk fO
  obtain ⟨fl, _, _, _, _⟩ := hl.bd 1 (by omega) (by show -1 ≤ _; grind) (by show _ ≤ 1; grind)
  have nl := hl.near (1 / 1000000) (by grind) (by grind) fl
  rw [vk] at nl q3
  have e0 : κ * (2 * qC) = κ * fv cHi + κ * fv cLo := by rw [← hlam]; grind
  have hd := sub_rd hx fh
  have bd1 : fv x - fv (fmul (expKf x) cHi) ≤ 36 / 100 := by grind
  have bd2 : -(36 / 100) ≤ fv x - fv (fmul (expKf x) cHi) := by grind
  obtain ⟨fd, _, _, _, _⟩ := hd.bd 1 (by omega) (by show -1 ≤ _; grind) (by show _ ≤ 1; grind)
  have nd := hd.near (36 / 100) bd2 bd1 fd
  have hr := sub_rd fd fl
  obtain ⟨fr, _, _, _, _⟩ := hr.bd 1 (by omega) (by show -1 ≤ _; grind) (by show _ ≤ 1; grind)
  have nr := hr.near (37 / 100) (by grind) (by grind) fr
  have er : expR x = fsub (fsub x (fmul (expKf x) cHi)) (fmul (expKf x) cLo) := rfl
  rw [← er] at fr nr
  refine ⟨fr, ⟨?_, ?_⟩, ⟨t2, t1⟩, κ2, κ1⟩
  · grind
  · grind

/-- The logarithm's last steps. -/
theorem fin_err {e : Int} {lw : Nat} {Y : Rat} (he : e.natAbs ≤ 9007199254740992) (hl : isF lw) (l1 : -(37 / 100) ≤ fv lw) (l2 : fv lw ≤ 37 / 100) (y0 : 0 ≤ Y) (y3 : Y ≤ 701) (e1 : -(1443 / 1000 * Y + 3) ≤ (e : Rat)) (e2 : (e : Rat) ≤ 1443 / 1000 * Y + 3) :
    isF (fadd (fmul (wz e) cHi) (fadd lw (fmul (wz e) cLo))) ∧ fv (fadd (fmul (wz e) cHi) (fadd lw (fmul (wz e) cLo))) - ((e : Rat) * (2 * qC) + fv lw) ≤ 22 / 10 * (Y * eps) + 7 * eps ∧ ((e : Rat) * (2 * qC) + fv lw) - fv (fadd (fmul (wz e) cHi) (fadd lw (fmul (wz e) cLo))) ≤ 22 / 10 * (Y * eps) + 7 * eps := by
  obtain ⟨fL, fH, fO, f5, vL, vH, vO, v5⟩ := lits
  have hlam := lam_eq
  have hp0 := eps_pos
  obtain ⟨ha0, ha1⟩ := eta_eps
  have hε : eps * 4503599627370496 = 1 := by unfold eps; grind
  have H1 : fv cHi ≤ 7 / 10 := by grind
  have H0 : 0 ≤ fv cHi := by grind
  have O1 : fv cLo ≤ 1 / 10000000000 := by grind
  have O0 : 0 ≤ fv cLo := by grind
  obtain ⟨g, hg⟩ : ∃ g, g = Y * eps := ⟨_, rfl⟩
  have g0 : 0 ≤ g := by rw [hg]; exact Rat.mul_nonneg y0 (by grind)
  have g1 : g ≤ 701 * eps := by
    have := Rat.mul_nonneg (show (0 : Rat) ≤ 701 - Y by grind) (show (0 : Rat) ≤ eps by grind)
    grind
  rw [← hg]
  obtain ⟨fe, ve⟩ := fv_wz (z := e) he
  have n1200 : nq 1200 = 1200 := rfl
  have q2 := mul_bd (A := 1443 / 1000 * Y + 3) (B := 7 / 10) e1 e2 (show -(7 / 10) ≤ fv cHi by grind) H1
  have hh := mul_rd fe fH
  rw [ve] at hh
  obtain ⟨fh, _, _, _, _⟩ := hh.bd 1200 (by omega) (by rw [n1200]; grind) (by rw [n1200]; grind)
  have nh := hh.near ((1443 / 1000 * Y + 3) * (7 / 10)) (by grind) (by grind) fh
  have nh1 : fv (fmul (wz e) cHi) - (e : Rat) * fv cHi ≤ 102 / 100 * g + 22 / 10 * eps := by grind
  have nh2 : (e : Rat) * fv cHi - fv (fmul (wz e) cHi) ≤ 102 / 100 * g + 22 / 10 * eps := by grind
  clear nh
  have q3 := mul_bd (A := 1100) (B := 1 / 10000000000) (show -1100 ≤ (e : Rat) by grind) (show (e : Rat) ≤ 1100 by grind) (show -(1 / 10000000000) ≤ fv cLo by grind) O1
  have ho := mul_rd fe fO
  rw [ve] at ho
  obtain ⟨fo, _, _, _, _⟩ := ho.bd 1 (by omega) (by show -1 ≤ _; grind) (by show _ ≤ 1; grind)
  have no := ho.near (1 / 1000000) (by grind) (by grind) fo
  have ha := add_rd hl fo
  obtain ⟨fa, _, _, _, _⟩ := ha.bd 1 (by omega) (by show -1 ≤ _; grind) (by show _ ≤ 1; grind)
  have na := ha.near (38 / 100) (by grind) (by grind) fa
  have hv := add_rd fh fa
  obtain ⟨fv', _, _, _, _⟩ := hv.bd 1200 (by omega) (by rw [n1200]; grind) (by rw [n1200]; grind)
  have nv := hv.near (102 / 100 * Y + 26 / 10) (by grind) (by grind) fv'
  have nv1 : fv (fadd (fmul (wz e) cHi) (fadd lw (fmul (wz e) cLo))) - (fv (fmul (wz e) cHi) + fv (fadd lw (fmul (wz e) cLo))) ≤ 102 / 100 * g + 26 / 10 * eps + eta := by grind
  have nv2 : (fv (fmul (wz e) cHi) + fv (fadd lw (fmul (wz e) cLo))) - fv (fadd (fmul (wz e) cHi) (fadd lw (fmul (wz e) cLo))) ≤ 102 / 100 * g + 26 / 10 * eps + eta := by grind
  clear nv
  have e0 : (e : Rat) * (2 * qC) = (e : Rat) * fv cHi + (e : Rat) * fv cLo := by rw [← hlam]; grind
  refine ⟨fv', ?_, ?_⟩ <;> grind

theorem fv_mono_small {a b : Nat} (h : a ≤ b) (hb : b < 9218868437227405312) : fv a ≤ fv b := by
  rw [fv_le, uv_small (by omega), uv_small hb]
  have := unitsOf_le h
  omega
theorem fv_dbl {a : Nat} (h : dbl a < 9218868437227405312) : fv (dbl a) = 2 * fv a := by
  have ha : a < 9218868437227405312 := by unfold dbl at h; split at h <;> omega
  rw [fv_small h, fv_small ha, units_dbl, nq_mul]
  have : nq 2 = 2 := rfl
  rw [this]
  grind

/-- The significand and the place that the logarithm sees. -/
def Seen (S m : Nat) (K e : Int) : Prop := cHalf ≤ m ∧ m < dbl cHalf ∧ ((m = S ∧ e = K) ∨ (m = dbl S ∧ e = K - 1 ∧ S ≤ cHalf) ∨ (dbl m = S ∧ e = K + 1 ∧ dbl cHalf ≤ S))

theorem seen {S : Nat} (h1 : 1021 * 4503599627370496 ≤ S) (h2 : S < 1024 * 4503599627370496) (hlo : cHalf ≤ dbl S) (hhi : S < dbl (dbl cHalf)) (K : Int) : ∃ m e, Seen S m K e ∧ (e = K ∨ e = K - 1 ∨ e = K + 1) := by
  have hc : cHalf = 4604544271217802189 := rfl
  have hd : dbl cHalf = 4609047870845172685 := dbl_half
  have hS : dbl S = S + 4503599627370496 := by unfold dbl; rw [if_neg (by omega)]
  have hdd : dbl (dbl cHalf) = 4613551470472543181 := by rw [hd]; decide
  by_cases a : S < cHalf
  · exact ⟨dbl S, K - 1, ⟨by omega, by omega, .inr (.inl ⟨rfl, rfl, by omega⟩)⟩, by omega⟩
  · by_cases b : S < dbl cHalf
    · exact ⟨S, K, ⟨by omega, b, .inl ⟨rfl, rfl⟩⟩, by omega⟩
    · refine ⟨hlf S, K + 1, ⟨?_, ?_, .inr (.inr ⟨?_, rfl, by omega⟩)⟩, by omega⟩
      · unfold hlf; omega
      · unfold hlf; omega
      · unfold hlf dbl; rw [if_neg (by omega)]; omega

/-- The logarithm of the exponential is near what went in. -/
theorem back_err {x m : Nat} {e : Int} {Y : Rat} (hx : isF x) (y1 : -Y ≤ fv x) (y2 : fv x ≤ Y) (y3 : Y ≤ 701) (hs : Seen (expSer (expR x) 14) m (flI (expB x)) e) :
    isF (lnV m e) ∧ fv (lnV m e) - fv x ≤ 240 * eps + 40 * (Y * eps) ∧ fv x - fv (lnV m e) ≤ 240 * eps + 40 * (Y * eps) := by
  obtain ⟨hc1, hc2, hcase⟩ := hs
  have hp0 := eps_pos
  have hε : eps * 4503599627370496 = 1 := by unfold eps; grind
  obtain ⟨c1, c2⟩ := qC_in
  have Y0 : 0 ≤ Y := by grind
  obtain ⟨fr, ⟨r1, r2⟩, ⟨t1, t2⟩, κ1, κ2⟩ := red_err hx y1 y2 y3
  obtain ⟨g, hg⟩ : ∃ g, g = Y * eps := ⟨_, rfl⟩
  have g0 : 0 ≤ g := by rw [hg]; exact Rat.mul_nonneg Y0 (by grind)
  have g1 : g ≤ 701 * eps := by
    have := Rat.mul_nonneg (show (0 : Rat) ≤ 701 - Y by grind) (show (0 : Rat) ≤ eps by grind)
    grind
  rw [← hg] at r1 r2 t1 t2 ⊢
  generalize flI (expB x) = K at *
  generalize expR x = r at *
  have rb1 : -(36 / 100) ≤ fv r := by grind
  have rb2 : fv r ≤ 36 / 100 := by grind
  obtain ⟨s1, s2⟩ := ser_err fr (by grind) (by grind) 14 (by omega)
  obtain ⟨fS, sa, sb⟩ := ser_end fr (by grind) (by grind)
  generalize expSer r 14 = S at *
  obtain ⟨fh, vh⟩ := half_lits
  have hd : dbl cHalf = 4609047870845172685 := dbl_half
  have hm : m < 9218868437227405312 := by omega
  have hch : cHalf = 4604544271217802189 := rfl
  have fm : isF m := isF_small hm
  have v1 := fv_mono_small hc1 hm
  have v2 := fv_mono_small (Nat.le_of_lt hc2) (by omega)
  have vd := fv_dbl (a := cHalf) (by omega)
  rw [vd] at v2
  rw [vh] at v1 v2
  have hq1 : 7071 / 10000 ≤ qHalf := by unfold qHalf; decide +kernel
  have hq2 : qHalf ≤ 70711 / 100000 := by unfold qHalf; decide +kernel
  obtain ⟨z, hz⟩ : ∃ z, z * (fv m + 1) = fv m - 1 := ⟨(fv m - 1) / (fv m + 1), div_cancel (by grind)⟩
  obtain ⟨fl, l1, l2, z1, z2, b1, b2⟩ := ln_err fm (by grind) (by grind) hz
  have κe : -(1443 / 1000 * Y + 3) ≤ (e : Rat) ∧ (e : Rat) ≤ 1443 / 1000 * Y + 3 := by
    have k1 : ((K - 1 : Int) : Rat) = (K : Rat) - 1 := by rw [Rat.intCast_sub]; rfl
    have k2 : ((K + 1 : Int) : Rat) = (K : Rat) + 1 := by rw [Rat.intCast_add]; rfl
    rcases hcase with ⟨_, h⟩ | ⟨_, h, _⟩ | ⟨_, h, _⟩ <;> rw [h] <;> constructor <;> grind
  have hea : e.natAbs ≤ 9007199254740992 := by
    have h1 : ((-1100 : Int) : Rat) ≤ (e : Rat) := by show (-1100 : Rat) ≤ _; grind
    have h2 : (e : Rat) ≤ ((1100 : Int) : Rat) := by show _ ≤ (1100 : Rat); grind
    have h3 := Rat.intCast_le_intCast.1 h1
    have h4 := Rat.intCast_le_intCast.1 h2
    omega
  obtain ⟨fV, n1, n2⟩ := fin_err hea fl (by grind) (by grind) Y0 y3 κe.1 κe.2
  rw [← hg] at n1 n2
  have hV : lnV m e = fadd (fmul (wz e) cHi) (fadd (lnSer m) (fmul (wz e) cLo)) := rfl
  rw [← hV] at fV n1 n2
  have main : lnq z + (e : Rat) * (2 * qC) - (K : Rat) * (2 * qC) - fv r ≤ 180 * eps + 7 * (35 / 10 * g + 6 * eps) ∧ fv r + (K : Rat) * (2 * qC) - (e : Rat) * (2 * qC) - lnq z ≤ 180 * eps + 7 * (35 / 10 * g + 6 * eps) := by
    rcases hcase with ⟨hmS, he⟩ | ⟨hmS, he, hle⟩ | ⟨hmS, he, hle⟩
    · obtain ⟨w1, w2⟩ := back_same rb1 rb2 s1 s2 hz (by grind) (by grind) z1 z2 b1 b2 (by rw [hmS])
      rw [he]
      constructor <;> grind
    · have hv : fv m = 2 * fv S := by rw [hmS]; exact fv_dbl (by rw [← hmS]; exact hm)
      have hSq : fv S ≤ qHalf := by rw [← vh]; exact fv_mono_small hle (by omega)
      obtain ⟨w1, w2⟩ := back_below (g := 35 / 10 * g + 6 * eps) rb1 rb2 s1 s2 hz (by grind) (by grind) z1 z2 b1 b2 hv hSq (by grind) (by grind)
      have k1 : ((K - 1 : Int) : Rat) = (K : Rat) - 1 := by rw [Rat.intCast_sub]; rfl
      rw [he, k1]
      constructor <;> grind
    · have hSw : S < 9218868437227405312 := by rw [← hmS]; unfold dbl; split <;> omega
      have hv : 2 * fv m = fv S := by rw [← hmS]; exact (fv_dbl (by rw [hmS]; exact hSw)).symm
      have hSq : 2 * qHalf ≤ fv S := by rw [← vh, ← vd]; exact fv_mono_small hle hSw
      obtain ⟨w1, w2⟩ := back_above (g := 35 / 10 * g + 6 * eps) rb1 rb2 s1 s2 hz (by grind) (by grind) z1 z2 b1 b2 hv hSq (by grind) (by grind)
      have k1 : ((K + 1 : Int) : Rat) = (K : Rat) + 1 := by rw [Rat.intCast_add]; rfl
      rw [he, k1]
      constructor <;> grind
  refine ⟨fV, ?_, ?_⟩ <;> grind

end Go.Fl
