/- weirlaw06.CalcBacks returns true whatever comes in. -/
import Derived.Test.YtllphokepjekpaaBackD
import Derived.Test.YtllphokepjekpaaLogL
import Derived.Test.YtllphokepjekpaaModB
namespace Go.Fl
open Ieee

def c700 : Nat := 4649368480934526976
def n700 : Nat := 13872740517789302784
def c13 : Nat := 4412443251819771522
theorem lits700 : isF c700 ∧ isF n700 ∧ isF c13 ∧ fv c700 = 700 ∧ fv n700 = -700 ∧ 440 * eps ≤ fv c13 ∧ fv c13 ≤ 1 / 1000000000000 := by
  refine ⟨isF_small (by decide), by unfold isF; decide, isF_small (by decide), ?_, ?_, ?_⟩
  · have := fv_lit (c := c700) (den := 1) (num := 700) (by decide +kernel)
    have h1 : nq 1 = 1 := rfl
    have h2 : nq 700 = 700 := rfl
    rw [h1, h2] at this; grind
  · have := fv_neg_lit (c := n700) (den := 1) (num := 700) (by decide +kernel)
    have h1 : nq 1 = 1 := rfl
    have h2 : nq 700 = 700 := rfl
    rw [h1, h2] at this; grind
  · have := fv_lit (c := c13) (den := 2 ^ 96) (num := 7922816251426434) (by decide +kernel)
    have h1 : nq (2 ^ 96) = 79228162514264337593543950336 := rfl
    have h2 : nq 7922816251426434 = 7922816251426434 := rfl
    rw [h1, h2] at this
    have hε : eps * 4503599627370496 = 1 := by unfold eps; grind
    constructor <;> grind

theorem fv_abs {x : Nat} (hx : isF x) : isF (rung x) ∧ fv (rung x) = fa x ∧ (fv x = fa x ∨ fv x = -fa x) ∧ 0 ≤ fa x := by
  unfold isF at hx
  have h1 : isF (rung x) := isF_small hx
  refine ⟨h1, ?_, ?_, fa_nonneg x⟩
  · rw [fv_small hx]; rfl
  · have := fv_fa x
    cases hs : sgn x <;> rw [hs] at this <;> simp at this
    · exact .inl this
    · exact .inr this

/-- The exponential: a normal word above zero; what the logarithm sees of it. -/
theorem exp_seen {x : Nat} (hx : isF x) (x1 : -700 ≤ fv x) (x2 : fv x ≤ 700) :
    ∃ y m e, expS x = y ∧ 0 < y ∧ y < 9218868437227405312 ∧ LP y m e ∧ Seen (expSer (expR x) 14) m (flI (expB x)) e := by
  have hN := isF_notN hx
  have hp0 := eps_pos
  have hε : eps * 4503599627370496 = 1 := by unfold eps; grind
  have g1 : (ford x cTop == some .gt) = false := by
    have f1 : isF cTop := by unfold isF; decide
    have v1 : fv cTop * 8796093022208 = 6243314768165359 := fv_lit (c := cTop) (den := 8796093022208) (num := 6243314768165359) (by decide +kernel)
    rw [(ford_fv hx f1).2.1]
    exact decide_eq_false (by grind)
  have g2 : (ford x cLow == some .lt) = false := by
    have f0 : isF cLow := by unfold isF; decide
    have v0 : fv cLow * 4398046511104 = -3277130554578985 := fv_neg_lit (c := cLow) (den := 4398046511104) (num := 3277130554578985) (by decide +kernel)
    rw [(ford_fv hx f0).1]
    exact decide_eq_false (by grind)
  have hS : expS x = expW x := by unfold expS; rw [hN, g1, g2, if_neg (by simp), if_neg (by simp), if_neg (by simp)]
  obtain ⟨fr, ⟨r1, r2⟩, ⟨t1, t2⟩, κ1, κ2⟩ := red_err (Y := 700) hx x1 x2 (by grind)
  obtain ⟨c1, c2⟩ := qC_in
  have rb1 : -(36 / 100) ≤ fv (expR x) := by grind
  have rb2 : fv (expR x) ≤ 36 / 100 := by grind
  obtain ⟨E, low, hw, hl, hE1, hE2⟩ := ser_word fr (by grind) (by grind)
  obtain ⟨s1, s2⟩ := ser_err fr (by grind) (by grind) 14 (by omega)
  -- the sum's size
  have ex : 55 / 100 ≤ exq (fv (expR x)) 14 ∧ exq (fv (expR x)) 14 ≤ 145 / 100 := by
    obtain ⟨b1, b2⟩ := exq_in rb1 rb2 13 (by omega)
    have one : ((14 - ((13 : Nat) : Int) : Int) : Rat) = 1 := rfl
    have ea : exq (fv (expR x)) 14 = 1 + fv (expR x) * exq (fv (expR x)) 13 / ((14 - ((13 : Nat) : Int) : Int) : Rat) := rfl
    rw [one] at ea
    have m := mul_bd (A := 36 / 100) (B := 1225 / 1000) rb1 rb2 (show -(1225 / 1000) ≤ exq (fv (expR x)) 13 by grind) b2
    constructor <;> grind
  obtain ⟨S, hSS⟩ : ∃ S, S = expSer (expR x) 14 := ⟨_, rfl⟩
  rw [← hSS] at hw s1 s2 ⊢
  obtain ⟨K, hK⟩ : ∃ K, K = flI (expB x) := ⟨_, rfl⟩
  have hWd : expW x = scW (4503599627370496 + S % 4503599627370496) (((S / 4503599627370496 : Nat) : Int) + K) := by rw [hSS, hK]; rfl
  rw [← hK] at κ1 κ2 ⊢
  have k1 : -1013 ≤ K := by
    have : ((-1013 : Int) : Rat) ≤ (K : Rat) := by show (-1013 : Rat) ≤ _; grind
    exact Rat.intCast_le_intCast.1 this
  have k2 : K ≤ 1013 := by
    have : (K : Rat) ≤ ((1013 : Int) : Rat) := by show _ ≤ (1013 : Rat); grind
    exact Rat.intCast_le_intCast.1 this
  obtain ⟨fh, vh⟩ := half_lits
  have hq1 : 7071 / 10000 ≤ qHalf := by unfold qHalf; decide +kernel
  have hq2 : qHalf ≤ 70711 / 100000 := by unfold qHalf; decide +kernel
  have hd : dbl cHalf = 4609047870845172685 := dbl_half
  have hdd : dbl (dbl cHalf) = 4613551470472543181 := by rw [hd]; decide
  have hch : cHalf = 4604544271217802189 := rfl
  have hdS : dbl S = S + 4503599627370496 := by unfold dbl; rw [if_neg (by omega)]
  have vS := fv_dbl (a := S) (by omega)
  have vd := fv_dbl (a := cHalf) (by omega)
  have vdd := fv_dbl (a := dbl cHalf) (by omega)
  have hlo : cHalf ≤ dbl S := Nat.le_of_not_lt fun h => by
    have := fv_mono_small (Nat.le_of_lt h) (by omega)
    grind
  have hhi : S < dbl (dbl cHalf) := Nat.lt_of_not_le fun h => by
    have := fv_mono_small h (by omega)
    grind
  obtain ⟨m, e, hseen, he3⟩ := seen (S := S) (by omega) (by omega) hlo hhi K
  obtain ⟨F, hF⟩ : ∃ F : Nat, (E : Int) + K = (F : Int) := ⟨((E : Int) + K).toNat, by omega⟩
  have hy : expS x = F * 4503599627370496 + low := by
    rw [hS, hWd, show S % 4503599627370496 = low by omega, show S / 4503599627370496 = E by omega, hF, scW_norm hl rfl (by omega) (by omega)]
  refine ⟨F * 4503599627370496 + low, m, e, hy, by omega, by omega, ?_, hseen⟩
  have uS : unitsOf S = (4503599627370496 + low) * 2 ^ (E - 1) := by rw [hw]; exact units_norm (by omega) hl
  have uy : unitsOf (F * 4503599627370496 + low) = (4503599627370496 + low) * 2 ^ (F - 1) := units_norm (by omega) hl
  have hrel : unitsOf S * 2 ^ K.toNat = unitsOf (F * 4503599627370496 + low) * 2 ^ (-K).toNat := by
    rw [uS, uy, Nat.mul_assoc, Nat.mul_assoc, ← Nat.pow_add, ← Nat.pow_add, show E - 1 + K.toNat = F - 1 + (-K).toNat by omega]
  obtain ⟨hc1, hc2, hcase⟩ := hseen
  refine ⟨hc1, hc2, ?_⟩
  rcases hcase with ⟨hm, he⟩ | ⟨hm, he, _⟩ | ⟨hm, he, _⟩
  · exact ⟨(-K).toNat, K.toNat, by rw [hm]; exact hrel, by omega⟩
  · refine ⟨(-K).toNat + 1, K.toNat, ?_, by omega⟩
    rw [hm, units_dbl, Nat.pow_succ, ← Nat.mul_assoc, ← hrel]
    ac_rfl
  · refine ⟨(-K).toNat, K.toNat + 1, ?_, by omega⟩
    rw [← hrel, ← hm, units_dbl, Nat.pow_succ]
    ac_rfl

theorem edge_word {y : Nat} (h0 : 0 < y) (h1 : y < 9218868437227405312) : lnEdge y = none := by
  have hN := isF_notN (isF_small h1)
  have hp : isN pinf = false := by decide +kernel
  have hz : isN 0 = false := by decide +kernel
  unfold lnEdge
  rw [hN, flt_pl hN hz, feq_pl hN hz, feq_pl hN hp, pl_pos (r := y) (by omega), pl_pos (r := 0) (by omega), pl_pos (r := pinf) (by decide)]
  rw [if_neg (by simp), if_neg (by simp), if_neg (by simp; omega), if_neg (by simp; unfold pinf; omega)]

/-- The law, of numbers. -/
theorem backs_plain {x : Nat} (hx : isF x) (x1 : -700 ≤ fv x) (x2 : fv x ≤ 700) :
    ∃ y, expS x = y ∧ 0 < y ∧ y < 9218868437227405312 ∧
      (ford (rung (fsub (lnS y) x)) (fmul c13 (fadd w1 (rung x))) == some .lt || ford (rung (fsub (lnS y) x)) (fmul c13 (fadd w1 (rung x))) == some .eq) = true := by
  obtain ⟨y, m, e, hy, y0, y1, hlp, hseen⟩ := exp_seen hx x1 x2
  refine ⟨y, hy, y0, y1, ?_⟩
  rw [lnS_none (edge_word y0 y1) hlp]
  have hp0 := eps_pos
  have hε : eps * 4503599627370496 = 1 := by unfold eps; grind
  obtain ⟨ha0, ha1⟩ := eta_eps
  obtain ⟨fy, vY, hsg, Y0⟩ := fv_abs hx
  obtain ⟨Y, hY⟩ : ∃ Y, Y = fa x := ⟨_, rfl⟩
  rw [← hY] at vY hsg Y0
  have y1' : -Y ≤ fv x := by grind
  have y2' : fv x ≤ Y := by grind
  have y3 : Y ≤ 700 := by grind
  obtain ⟨fV, n1, n2⟩ := back_err hx y1' y2' (by grind) hseen
  generalize lnV m e = V at *
  obtain ⟨g, hg⟩ : ∃ g, g = Y * eps := ⟨_, rfl⟩
  have g0 : 0 ≤ g := by rw [hg]; exact Rat.mul_nonneg Y0 (by grind)
  have g1 : g ≤ 701 * eps := by
    have := Rat.mul_nonneg (show (0 : Rat) ≤ 701 - Y by grind) (show (0 : Rat) ≤ eps by grind)
    grind
  rw [← hg] at n1 n2
  -- the difference
  have hd := sub_rd fV hx
  obtain ⟨fd, _, _, _, _⟩ := hd.bd 1 (by omega) (by show -1 ≤ _; grind) (by show _ ≤ 1; grind)
  have nd := hd.near (1 / 1000000) (by grind) (by grind) fd
  generalize fsub V x = Dw at *
  obtain ⟨fD, vD, hsD, D0⟩ := fv_abs fd
  have dle : fv (rung Dw) ≤ 241 * eps + 40 * g := by grind
  -- the bound
  obtain ⟨f7, f7n, f13, _, _, v13, u13⟩ := lits700
  obtain ⟨fw, vw⟩ := fv_one
  have ha := add_rd fw fy
  rw [vw, vY] at ha
  have n800 : nq 800 = 800 := rfl
  obtain ⟨fA, _, _, _, _⟩ := ha.bd 800 (by omega) (by rw [n800]; grind) (by rw [n800]; grind)
  have na := ha.near (1 + Y) (by grind) (by grind) fA
  have na2 : 1 + Y - fv (fadd w1 (rung x)) ≤ eps + g + eta := by grind
  have na1 : fv (fadd w1 (rung x)) - (1 + Y) ≤ eps + g + eta := by grind
  clear na
  have hT := mul_rd f13 fA
  generalize fadd w1 (rung x) = Aw at *
  have p1 : 0 ≤ (fv c13 - 440 * eps) * fv Aw := Rat.mul_nonneg (by grind) (by grind)
  have p2 : 0 ≤ (1 / 1000000000000 - fv c13) * fv Aw := Rat.mul_nonneg (by grind) (by grind)
  have p3 : 0 ≤ eps * (fv Aw - (1 + Y - (eps + g + eta))) := Rat.mul_nonneg (by grind) (by grind)
  have p4 : eps * (eps + g + eta) ≤ eps * (1 / 1000) := by
    have := Rat.mul_nonneg (show (0 : Rat) ≤ eps by grind) (show (0 : Rat) ≤ 1 / 1000 - (eps + g + eta) by grind)
    grind
  have p5 : 440 * eps + 440 * g - eps ≤ fv c13 * fv Aw := by grind
  have p6 : fv c13 * fv Aw ≤ 1 / 1000000000 := by grind
  obtain ⟨fT, _, _, _, _⟩ := hT.bd 1 (by omega) (by show -1 ≤ _; grind) (by show _ ≤ 1; grind)
  have nT := hT.near (1 / 1000000000) (by grind) p6 fT
  have hle : fv (rung Dw) ≤ fv (fmul c13 Aw) := by grind
  generalize fmul c13 Aw = Tw at *
  rw [(ford_fv fD fT).1, (ford_fv fD fT).2.2]
  by_cases h : fv (rung Dw) < fv Tw
  · rw [decide_eq_true h]; rfl
  · have he : fv (rung Dw) = fv Tw := by grind
    rw [decide_eq_true he]; simp

end Go.Fl
namespace Go.Proofs.Ytllphokepjekpaa
open Go.Fl Go.Rel Go.RowKit
set_option linter.unusedSimpArgs false
set_option linter.unusedVariables false

theorem exp_nought : expS (cn 0) = 4607182418800017408 := by decide +kernel

set_option maxHeartbeats 4000000 in
set_option maxRecDepth 100000 in
theorem backs_out (x : Nat) (w : World) (h : ((FloatKind.f64.format.order x 13872740517789302784 == some .gt || FloatKind.f64.format.order x 13872740517789302784 == some .eq) = false) ∨ ((FloatKind.f64.format.order x 13872740517789302784 == some .gt || FloatKind.f64.format.order x 13872740517789302784 == some .eq) = true ∧ (FloatKind.f64.format.order x 4649368480934526976 == some .lt || FloatKind.f64.format.order x 4649368480934526976 == some .eq) = false)) :
    Calls Try.prog 8 #[.float .f64 x] w fun e w' => e = .returned (.bool true) ∧ Below w.heap.size w w' := by
  have heq : (FloatKind.f64.format.order 4607182418800017408 4607182418800017408 == some .eq) = true := by decide +kernel
  rcases h with h1 | ⟨h1, h2⟩
  · go_enter Try.func8, Try.ntmps8
    go_wp2_with (go_at_call 32; refine (exp_any _ _).mono ?_; rintro e w' ⟨r, n, rfl, hr, rfl⟩; rw [exp_nought] at hr; have hr2 := eq_of_cn hr (by decide +kernel); subst hr2; clear hr)
    go_ret
    exact ⟨rfl, by repeat (first | exact Below.refl _ _ | refine Below.drewN' ?_ _)⟩
  · go_enter Try.func8, Try.ntmps8
    go_wp2_with (go_at_call 32; refine (exp_any _ _).mono ?_; rintro e w' ⟨r, n, rfl, hr, rfl⟩; rw [exp_nought] at hr; have hr2 := eq_of_cn hr (by decide +kernel); subst hr2; clear hr)
    go_ret
    exact ⟨rfl, by repeat (first | exact Below.refl _ _ | refine Below.drewN' ?_ _)⟩

set_option maxHeartbeats 4000000 in
set_option maxRecDepth 100000 in
theorem law_backs (x : Nat) (w : World) (hx : W64 x) :
    Calls Try.prog 8 #[.float .f64 x] w fun e w' => e = .returned (.bool true) ∧ Below w.heap.size w w' := by
  cases h1 : (FloatKind.f64.format.order x 13872740517789302784 == some .gt || FloatKind.f64.format.order x 13872740517789302784 == some .eq)
  case false => exact backs_out x w (.inl h1)
  cases h2 : (FloatKind.f64.format.order x 4649368480934526976 == some .lt || FloatKind.f64.format.order x 4649368480934526976 == some .eq)
  case false => exact backs_out x w (.inr ⟨h1, h2⟩)
  obtain ⟨f7, f7n, f13, v7, v7n, _⟩ := lits700
  have hf : isF x := isF_between f7n f7 h1 h2
  have x1 : -700 ≤ fv x := by
    rw [← v7n, fv_le]
    exact (uv_between f7n f7 h1 h2).1
  have x2 : fv x ≤ 700 := by
    rw [← v7, fv_le]
    exact (uv_between f7n f7 h1 h2).2
  obtain ⟨y, hy, y0, y1, hle⟩ := backs_plain hf x1 x2
  have HCX : Hid (cn x = x) := Lib.hid (cn_of_notN (isF_notN hf))
  have HY : Hid (expS (cn x) = y) := Lib.hid (by rw [HCX.out]; exact hy)
  have HCY : Hid (cn y = y) := Lib.hid (cn_small y1)
  have HNY : Hid (isN y = false) := Lib.hid (isF_notN (isF_small y1))
  have HWY : Hid (W64 y) := Lib.hid (by unfold W64; rw [HCY.out]; omega)
  have hgt : (FloatKind.f64.format.order y 0 == some .gt) = true := by
    rw [show (FloatKind.f64.format.order y 0 == some .gt) = decide (pl 0 < pl y) from fgt_pl HNY.out (by decide +kernel), pl_pos (r := 0) (by omega), pl_pos (r := y) (by omega)]
    exact decide_eq_true (by omega)
  have HLE := Lib.hid hle
  have HRX : Hid (rung x < 9218868437227405312) := Lib.hid hf
  clear hx hf x1 x2 hy y0 y1 hle f7 f7n f13 v7 v7n
  go_enter Try.func8, Try.ntmps8
  go_wp2_with fail
  go_at_call 32
  refine (exp_any _ _).mono ?_
  rintro e w' ⟨r, n, rfl, hr, rfl⟩
  rw [HY.out] at hr
  have hr2 := eq_of_cn hr HNY.out
  subst hr2
  clear hr
  go_wp2_with fail
  go_at_call 34
  refine (ln_any _ _ HWY.out).mono ?_
  rintro e w' ⟨l, nl, rfl, hl, rfl⟩
  have HL := Lib.hid hl
  clear hl
  go_wp2_with (first | (refine wpList_fop .sub _ _ _ _ l x rfl rfl rfl ?_; intro d nd hd; have HD := Lib.hid hd; clear hd) | (go_at_call 33; refine (abs_any _ _).mono ?_; rintro e w' ⟨rfl, rfl⟩))
  obtain ⟨a, na, hra, ha⟩ := run_fop (P := Try.prog) (w.drewN (n + nl + nd)) .add (by simp) 23 4607182418800017408 (x % top)
  have HA := Lib.hid ha
  clear ha
  go_wp2_with (simp only [hra])
  obtain ⟨t, nt, hrt, ht⟩ := run_fop (P := Try.prog) (w.drewN (n + nl + nd + na)) .mul (by simp) 23 4412443251819771522 a
  have HT := Lib.hid ht
  clear ht
  have hfin : (FloatKind.f64.format.order (d % top) t == some .lt || FloatKind.f64.format.order (d % top) t == some .eq) = true := by
    rw [order_cn]
    have e1 : cn t = fmul c13 (fadd w1 (rung x)) := by
      have ha2 : cn a = fadd w1 (rung x) := by rw [HA.out]; rfl
      rw [HT.out, ← fop_cn, ha2, show cn 4412443251819771522 = c13 by decide +kernel]; rfl
    have e2 : ∃ D, D = fsub (lnS r) x ∧ cn d = D := ⟨_, rfl, by rw [HD.out, HL.out, HCX.out, HCY.out]; rfl⟩
    obtain ⟨D, hD1, hD2⟩ := e2
    have hb := HLE.out
    rw [← hD1] at hb
    rw [e1]
    have hND : isN d = false := by
      cases hn : isN d
      · rfl
      · exfalso
        rw [cn_of_N hn] at hD2
        rw [← hD2, ford_nan1 (by decide +kernel)] at hb
        exact absurd hb (by decide)
    rw [cn_of_notN hND] at hD2
    have e3 : cn (d % top) = rung D := by
      rw [← hD2]
      exact cn_of_notN (by rw [isN_mod]; exact hND)
    rw [e3]
    exact hb
  go_wp2_with (simp only [hrt])
  go_ret
  exact ⟨rfl, by repeat (first | exact Below.refl _ _ | refine Below.drewN' ?_ _)⟩

end Go.Proofs.Ytllphokepjekpaa
