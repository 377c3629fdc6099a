/- scaled and scale: a significand at a place. -/
import Derived.Test.YtmmfjknnbkcniaaGreatSmallQ
import Derived.Test.YtmmfjknnbkcniaaGreatFlExp
import Derived.Test.YtmmfjknnbkcniaaGreatHalfR
import Derived.Laws.BitsAllLaws
namespace Go.Proofs.YtmmfjknnbkcniaaGreat
open Go.Fl Go.Rel Go.RowKit
set_option linter.unusedSimpArgs false
set_option linter.unusedVariables false

theorem and_2047 (S E low : Nat) (hS : S = E * 4503599627370496 + low) (hl : low < 4503599627370496) (hE : E ≤ 2046) : bits .and .u64 ((S : Int) / 4503599627370496) 2047 = (E : Int) := by
  have e : (S : Int) / 4503599627370496 = (E : Int) := by omega
  rw [e]
  have := u64_and_nat E 2047 (by omega) (by omega)
  rw [nat_mask11, Nat.mod_eq_of_lt (by omega)] at this
  exact this
theorem and_low (S E low : Nat) (hS : S = E * 4503599627370496 + low) (hl : low < 4503599627370496) (hE : E ≤ 2046) : bits .and .u64 (S : Int) 4503599627370495 = (low : Int) := by
  have := u64_and_nat S 4503599627370495 (by omega) (by omega)
  have e : S &&& 4503599627370495 = S % 4503599627370496 := Nat.and_two_pow_sub_one_eq_mod S 52
  rw [e, hS, show (E * 4503599627370496 + low) % 4503599627370496 = low by omega] at this
  rw [hS]
  exact this
theorem or_low (F low : Nat) (hl : low < 4503599627370496) (hF : F ≤ 2046) : bits .or .u64 ((F : Int) * 4503599627370496) (low : Int) = (F : Int) * 4503599627370496 + low := by
  have := u64_or_nat (F * 4503599627370496) low (by omega) (by omega)
  rw [nat_join 52 (F * 4503599627370496) low (by omega) (by omega)] at this
  rw [Int.natCast_add, Int.natCast_mul] at this
  exact this
theorem or_one (low : Nat) (hl : low < 4503599627370496) : bits .or .u64 (low : Int) 4503599627370496 = ((4503599627370496 + low : Nat) : Int) := by
  have := u64_or_nat low 4503599627370496 (by omega) (by omega)
  rw [Nat.or_comm, nat_join 52 4503599627370496 low (by decide) (by omega)] at this
  exact this

set_option maxRecDepth 100000 in
theorem scaled_any (S E low : Nat) (k : Int) (w : World) (hS : S = E * 4503599627370496 + low) (hl : low < 4503599627370496) (h1 : 1 ≤ E) (h2 : E ≤ 2046) (k1 : -5000 ≤ k) (k2 : k ≤ 5000) :
    Calls Tryz.prog 102 #[.float .f64 S, .int .i64 k] w fun e w' => e = .returned (.float .f64 (scW (4503599627370496 + low) ((E : Int) + k))) ∧ w = w' := by
  have hb := bits_run S
  have hb1 := and_2047 S E low hS hl h2
  have hb2 := and_low S E low hS hl h2
  obtain ⟨f, hf⟩ : ∃ f, (E : Int) + k = f := ⟨_, rfl⟩
  rw [hf]
  by_cases c1 : 2047 ≤ f
  · have d1 : decide (2047 ≤ f) = true := decide_eq_true c1
    rw [scW_top c1]
    clear hS c1
    go_enter Tryz.func102, Tryz.ntmps102
    go_wp2_with (first | simp only [hb] | (go_at_call 95; refine (inf_up _).mono ?_; rintro e w' ⟨rfl, rfl⟩))
    go_ret
    exact ⟨rfl, rfl⟩
  have d1 : decide (2047 ≤ f) = false := decide_eq_false c1
  by_cases c2 : 1 ≤ f
  · have d2 : decide (1 ≤ f) = true := decide_eq_true c2
    obtain ⟨F, rfl⟩ : ∃ F : Nat, f = (F : Int) := ⟨f.toNat, by omega⟩
    rw [scW_norm hl rfl (by omega) (by omega)]
    have hb3 := or_low F low hl (by omega)
    have hfr := frombits_run ((F : Int) * 4503599627370496 + low)
    rw [show ((F : Int) * 4503599627370496 + low).toNat = F * 4503599627370496 + low by omega] at hfr
    have F1 : (1 : Int) ≤ (F : Int) := by omega
    have F2 : (F : Int) ≤ 2046 := by omega
    clear hS c1 c2
    go_enter Tryz.func102, Tryz.ntmps102
    go_wp2_with (first | simp only [hb] | simp only [hfr])
    go_ret
    exact ⟨rfl, rfl⟩
  have d2 : decide (1 ≤ f) = false := decide_eq_false c2
  by_cases c3 : f < -53
  · have d3 : decide (f < -53) = true := decide_eq_true c3
    rw [scW_none hl c3]
    clear hS c1 c2 c3
    go_enter Tryz.func102, Tryz.ntmps102
    go_wp2_with (first | simp only [hb])
    go_ret
    exact ⟨rfl, rfl⟩
  have d3 : decide (f < -53) = false := decide_eq_false c3
  obtain ⟨d, hd⟩ : ∃ d : Nat, 1 - f = (d : Int) := ⟨(1 - f).toNat, by omega⟩
  rw [scW_sub (d := d) hl (by omega) (by omega) (by omega)]
  have hb3 := or_one low hl
  obtain ⟨M, hM⟩ : ∃ M, M = 4503599627370496 + low := ⟨_, rfl⟩
  rw [← hM] at hb3 ⊢
  have hM2 : M < 9007199254740992 := by omega
  have hdd : d ≤ 54 := by omega
  have hd1 : 1 ≤ d := by omega
  have i1 : (1 : Int) ≤ (d : Int) := by omega
  have i2 : (d : Int) ≤ 54 := by omega
  obtain ⟨q, hq0⟩ : ∃ q, q = M / 2 ^ d := ⟨_, rfl⟩
  obtain ⟨rs, hrs0⟩ : ∃ rs, rs = M % 2 ^ d := ⟨_, rfl⟩
  obtain ⟨md, hmd0⟩ : ∃ md, md = 2 ^ (d - 1) := ⟨_, rfl⟩
  have hp54 : 2 ^ d ≤ 2 ^ 54 := Nat.pow_le_pow_right (by omega) hdd
  have hp53 : 2 ^ (d - 1) ≤ 2 ^ 53 := Nat.pow_le_pow_right (by omega) (by omega)
  have e54 : (2 : Nat) ^ 54 = 18014398509481984 := by decide
  have e53 : (2 : Nat) ^ 53 = 9007199254740992 := by decide
  have hq : (M : Int) / 2 ^ d = (q : Int) := by rw [hq0]; simp
  have hw0 : ((2 : Int) ^ d) = ((2 ^ d : Nat) : Int) := by simp
  have hp := Nat.two_pow_pos d
  have hr : bits .and .u64 (M : Int) (IntKind.u64.wrap (IntKind.u64.wrap (2 ^ d) - 1)) = (rs : Int) := by
    rw [hw0, show IntKind.u64.wrap ((2 ^ d : Nat) : Int) = ((2 ^ d : Nat) : Int) by rw [IntKind.wrap_u64]; omega, show ((2 ^ d : Nat) : Int) - 1 = ((2 ^ d - 1 : Nat) : Int) by omega,
      show IntKind.u64.wrap ((2 ^ d - 1 : Nat) : Int) = ((2 ^ d - 1 : Nat) : Int) by rw [IntKind.wrap_u64]; omega, u64_and_nat M (2 ^ d - 1) (by omega) (by omega), Nat.and_two_pow_sub_one_eq_mod, hrs0]
  have hm : IntKind.u64.wrap (2 ^ (d - 1)) = (md : Int) := by
    have : ((2 : Int) ^ (d - 1)) = ((2 ^ (d - 1) : Nat) : Int) := by simp
    rw [this, hmd0, IntKind.wrap_u64]; omega
  rw [← hq0, ← hrs0, ← hmd0]
  have hqb : q ≤ 9007199254740992 := by rw [hq0]; exact Nat.le_trans (Nat.div_le_self _ _) (by omega)
  have f0 := frombits_run (q : Int)
  have f1 := frombits_run ((q : Int) + 1)
  rw [Int.toNat_natCast] at f0
  rw [show ((q : Int) + 1).toNat = q + 1 by omega] at f1
  have q1 : (0 : Int) ≤ (q : Int) := by omega
  have q2 : (q : Int) ≤ 9007199254740992 := by omega
  clear hS c1 c2 c3 hM hM2 hp54 hp53 e54 e53 hw0 hp hq0 hrs0 hmd0 hdd hd1
  by_cases g1 : md < rs
  · have d4 : decide (md < rs) = true := decide_eq_true g1
    rw [decide_eq_true g1]
    clear g1
    go_enter Tryz.func102, Tryz.ntmps102
    go_wp2_with (first | simp only [hb] | simp only [f1])
    go_ret
    exact ⟨rfl, rfl⟩
  · have d4 : decide (md < rs) = false := decide_eq_false g1
    rw [decide_eq_false g1]
    by_cases g2 : rs = md
    · have d5 : ((rs : Int) == (md : Int)) = true := by simp; omega
      by_cases g3 : q % 2 = 1
      · have d6 : ((q : Int) % 2 == 1) = true := by simp; omega
        have e0 : (rs == md && q % 2 == 1) = true := by rw [g2, g3]; simp
        rw [e0]
        clear g1 g2 g3 e0
        go_enter Tryz.func102, Tryz.ntmps102
        go_wp2_with (first | simp only [hb] | simp only [f1])
        go_ret
        exact ⟨rfl, rfl⟩
      · have d6 : ((q : Int) % 2 == 1) = false := by simp; omega
        have e0 : (rs == md && q % 2 == 1) = false := by simp [g3]
        rw [e0]
        clear g1 g2 g3 e0
        go_enter Tryz.func102, Tryz.ntmps102
        go_wp2_with (first | simp only [hb] | simp only [f0])
        go_ret
        exact ⟨rfl, rfl⟩
    · have d5 : ((rs : Int) == (md : Int)) = false := by simp; omega
      have e0 : (rs == md && q % 2 == 1) = false := by simp [g2]
      rw [e0]
      clear g1 g2 e0
      go_enter Tryz.func102, Tryz.ntmps102
      go_wp2_with (first | simp only [hb] | simp only [f0])
      go_ret
      exact ⟨rfl, rfl⟩

theorem notN_small {x : Nat} (h : x < 9218868437227405312) : cn x = x := cn_of_notN (isF_notN (isF_small h))

theorem scW_notN (M : Nat) (e : Int) : cn (scW M e) = scW M e := cn_of_notN (write_not_nan (.number false M (e - 1075)) rfl)

def ScRel (w : World) (E low : Nat) (k : Int) (v0 v1 : Value) (wr : World) : Prop :=
  ∃ (E' : Nat) (k' : Int) (m : Nat), v0 = .float .f64 (E' * 4503599627370496 + low) ∧ v1 = .int .i64 k' ∧ wr = w.drewN m ∧ (E' : Int) + k' = (E : Int) + k ∧ (k' = k ∨ 900 < k') ∧ k' ≤ k

set_option maxHeartbeats 1000000 in
set_option maxRecDepth 100000 in
theorem scale_any (S E low : Nat) (k : Int) (w : World) (hS : S = E * 4503599627370496 + low) (hl : low < 4503599627370496) (h1 : 1000 ≤ E) (h2 : E ≤ 1030) (k1 : -1090 ≤ k) (k2 : k ≤ 1090) :
    Calls Tryz.prog 112 #[.float .f64 S, .int .i64 k] w (FRet (scW (4503599627370496 + low) ((E : Int) + k)) w) := by
  have hS2 := Lib.hid hS
  subst hS
  have HL := Lib.hid hl
  go_enter Tryz.func112, Tryz.ntmps112
  go_wp2_with fail
  go_loopw [0, 1] (ScRel w E low k) (fun _ v _ => (intOf v).toNat)
  case atStart => exact ⟨E, k, 0, rfl, rfl, rfl, rfl, .inl rfl, Int.le_refl _⟩
  case round =>
    obtain ⟨E', k', m, rfl, rfl, rfl, he, hk, hkk⟩ := hrel
    have hE1 : 1 ≤ E' := by omega
    have hE2 : E' ≤ 1300 := by omega
    have hc := notN_small (x := E' * 4503599627370496 + low) (by omega)
    have HC := Lib.hid hc
    have HE := Lib.hid he
    by_cases c : 1000 < k'
    · have d1 : decide (1000 < k') = true := decide_eq_true c
      have hmul := fmul_pow2 (E := E') (low := low) (J := 1123) hl hE1 (by omega) (by omega) (by omega)
      rw [show (E' : Int) + ((1123 : Nat) : Int) - 1023 = ((E' + 100 : Nat) : Int) by omega, scW_norm hl rfl (by omega) (by omega)] at hmul
      have HM := Lib.hid hmul
      have hcp : cn 5057542381537067008 = 5057542381537067008 := by decide +kernel
      have HCP := Lib.hid hcp
      clear hc he hmul hcp hl
      go_wp2_with (first | (go_at_call 108; refine (rbits_any _ _).mono ?_; rintro e w' ⟨rfl, rfl⟩) | (refine wpList_fop _ _ _ _ _ _ _ rfl rfl rfl ?_; intro r nq hr; have HR := Lib.hid hr; clear hr))
      have hr2 : r = (E' + 100) * 4503599627370496 + low := by
        refine eq_of_cn (c := (E' + 100) * 4503599627370496 + low) ?_ (isF_notN (isF_small (by have := HL.out; omega)))
        rw [HR.out, HC.out, show cn _ = _ from HCP.out]
        exact HM.out
      subst hr2
      go_roundw
      case rel => exact ⟨E' + 100, k' - 100, _, rfl, rfl, rfl, by have := HE.out; omega, .inr (by omega), by omega⟩
      case measure => simp [intOf]; omega
    · have d1 : decide (1000 < k') = false := decide_eq_false c
      by_cases c2 : -1000 ≤ k'
      · have d2 : decide (-1000 ≤ k') = true := decide_eq_true c2
        obtain ⟨J, hJ⟩ : ∃ J : Nat, (J : Int) = 1023 + k' := ⟨(1023 + k').toNat, by omega⟩
        have hmul := fmul_pow2 (E := E') (low := low) (J := J) hl hE1 (by omega) (by omega) (by omega)
        rw [show (E' : Int) + (J : Int) - 1023 = (E : Int) + k by omega] at hmul
        have HM := Lib.hid hmul
        have hn : ((1023 + k') * 4503599627370496).toNat = J * 4503599627370496 := by omega
        have hcp : cn (J * 4503599627370496) = J * 4503599627370496 := notN_small (by omega)
        have HCP := Lib.hid hcp
        have u1 : 23 ≤ k' + 1023 := by omega
        have u2 : k' + 1023 ≤ 2023 := by omega
        have hJ' := Lib.hid hJ
        have HN := Lib.hid hn
        clear hc he hmul hcp hl hJ hn
        go_wp2_with (first | (go_at_call 108; refine (rbits_any _ _).mono ?_; rintro e w' ⟨rfl, rfl⟩; rw [HN.out]) | (refine wpList_fop _ _ _ _ _ _ _ rfl rfl rfl ?_; intro r nq hr; have HR := Lib.hid hr; clear hr))
        go_ret
        exact ⟨_, _, rfl, by rw [HR.out, HC.out, HCP.out]; exact HM.out, by simp only [World.drewN_drewN]; rfl⟩
      · have d2 : decide (-1000 ≤ k') = false := decide_eq_false c2
        have hkk' : k' = k := by omega
        subst hkk'
        have hEE : E' = E := by omega
        subst hEE
        have hm1 := fmul_pow2 (E := E') (low := low) (J := 123) hl hE1 (by omega) (by omega) (by omega)
        rw [show (E' : Int) + ((123 : Nat) : Int) - 1023 = ((E' - 900 : Nat) : Int) by omega, scW_norm hl rfl (by omega) (by omega)] at hm1
        have HM1 := Lib.hid hm1
        obtain ⟨J, hJ⟩ : ∃ J : Nat, (J : Int) = 1023 + k' + 900 := ⟨(1023 + k' + 900).toNat, by omega⟩
        have hmul := fmul_pow2 (E := E' - 900) (low := low) (J := J) hl (by omega) (by omega) (by omega) (by omega)
        rw [show ((E' - 900 : Nat) : Int) + (J : Int) - 1023 = (E' : Int) + k' by omega] at hmul
        have HM := Lib.hid hmul
        have hn : ((1023 + k' + 900) * 4503599627370496).toNat = J * 4503599627370496 := by omega
        have hcp : cn (J * 4503599627370496) = J * 4503599627370496 := notN_small (by omega)
        have HCP := Lib.hid hcp
        have hcp2 : cn 553942754166571008 = 553942754166571008 := by decide +kernel
        have HCP2 := Lib.hid hcp2
        have HC2 := Lib.hid (notN_small (x := (E' - 900) * 4503599627370496 + low) (by omega))
        have u1 : 23 ≤ 1023 + k' + 900 := by omega
        have u2 : 1023 + k' + 900 ≤ 2023 := by omega
        have u3 : -500 ≤ 1023 + k' := by omega
        have u4 : 1023 + k' ≤ 500 := by omega
        have HN := Lib.hid hn
        clear hc he hmul hcp hl hJ hn hm1 hcp2
        go_wp2_with (first | (go_at_call 108; refine (rbits_any _ _).mono ?_; rintro e w' ⟨rfl, rfl⟩; rw [HN.out]) | (go_at_call 108; refine (rbits_any _ _).mono ?_; rintro e w' ⟨rfl, rfl⟩) | (refine wpList_fop _ _ _ _ _ _ _ rfl rfl rfl ?_; intro r nq hr; have HR := Lib.hid hr; clear hr))
        go_ret
        rename_i r0 n0 HR0
        have h0 : cn r0 = (E' - 900) * 4503599627370496 + low := by
          rw [HR0.out, HC.out, show cn _ = _ from HCP2.out]
          exact HM1.out
        exact ⟨_, _, rfl, by rw [HR.out, h0, HCP.out]; exact HM.out, by simp only [World.drewN_drewN]; rfl⟩

end Go.Proofs.YtmmfjknnbkcniaaGreat
