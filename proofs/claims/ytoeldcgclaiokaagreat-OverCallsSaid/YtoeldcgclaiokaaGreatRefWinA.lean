/- weirref20.sound, seconds. -/
import Derived.Test.YtoeldcgclaiokaaGreatAliveB
namespace Go.Proofs.YtoeldcgclaiokaaGreat
open Go.Fl Go.Rel Go.RowKit
set_option linter.unusedVariables false
set_option linter.unusedSimpArgs false

set_option maxRecDepth 100000 in
theorem rsecs_any (z : Int) (w : World) : Calls Tryz.prog 26 #[.int .i64 z] w (FRet (secF z) w) := by
  go_enter Tryz.func26, Tryz.ntmps26
  go_wp2_with (first | (refine wpList_fop _ _ _ _ _ _ _ rfl rfl rfl ?_; intro r nq hr))
  go_ret
  exact ⟨r, nq, rfl, hr.trans (by rw [fop_quo, fdiv_cn1]; rfl), rfl⟩

def RSRel (F T : Int) (ss : List Smp) (n : Nat) (W1 : World) (va vi : Value) (wr : World) : Prop :=
  ∃ k : Nat, k ≤ n ∧ vi = .int .i64 (k : Int) ∧ va = .int .i64 (lastT F ss k) ∧ okK F ss k = true ∧ lastT F ss k ≤ T ∧ Below W1.heap.size W1 wr

set_option maxHeartbeats 4000000 in
set_option maxRecDepth 100000 in
theorem rsound_any (a : Option Addr) (n cap : Nat) (ss : List Smp) (F T N : Int) (w : World) (hr : SRow w a n ss) (hn : n < 17592186044416) :
    Calls Tryz.prog 16 #[winV a n cap F T N] w (BoolB (sndB F T N ss n) w) := by
  by_cases c0 : F < -9007199254740992
  · have HB : Hid (sndB F T N ss n = false) := snd_far (decide_eq_false (by omega))
    have d0 : decide (F < -9007199254740992) = true := decide_eq_true c0
    clear c0
    go_enter Tryz.func16, Tryz.ntmps16
    go_wp2_with fail
    go_ret
    exact ⟨by rw [HB.out]; rfl, (Below.refl _ _).alloc (Nat.le_refl _) _⟩
  have d0 : decide (F < -9007199254740992) = false := decide_eq_false c0
  by_cases c1 : 9007199254740992 < T
  · have HB : Hid (sndB F T N ss n = false) := snd_far (decide_eq_false (by omega))
    have d1 : decide (9007199254740992 < T) = true := decide_eq_true c1
    clear c0 c1
    go_enter Tryz.func16, Tryz.ntmps16
    go_wp2_with fail
    go_ret
    exact ⟨by rw [HB.out]; rfl, (Below.refl _ _).alloc (Nat.le_refl _) _⟩
  have d1 : decide (9007199254740992 < T) = false := decide_eq_false c1
  by_cases c2 : T < F
  · have HB : Hid (sndB F T N ss n = false) := snd_far (decide_eq_false (by omega))
    have d2 : decide (T < F) = true := decide_eq_true c2
    clear c0 c1 c2
    go_enter Tryz.func16, Tryz.ntmps16
    go_wp2_with fail
    go_ret
    exact ⟨by rw [HB.out]; rfl, (Below.refl _ _).alloc (Nat.le_refl _) _⟩
  have d2 : decide (T < F) = false := decide_eq_false c2
  by_cases c3 : N < -9007199254740992
  · have HB : Hid (sndB F T N ss n = false) := snd_far (decide_eq_false (by omega))
    have d3 : decide (N < -9007199254740992) = true := decide_eq_true c3
    clear c0 c1 c2 c3
    go_enter Tryz.func16, Tryz.ntmps16
    go_wp2_with fail
    go_ret
    exact ⟨by rw [HB.out]; rfl, (Below.refl _ _).alloc (Nat.le_refl _) _⟩
  have d3 : decide (N < -9007199254740992) = false := decide_eq_false c3
  by_cases c4 : 9007199254740992 < N
  · have HB : Hid (sndB F T N ss n = false) := snd_far (decide_eq_false (by omega))
    have d4 : decide (9007199254740992 < N) = true := decide_eq_true c4
    clear c0 c1 c2 c3 c4
    go_enter Tryz.func16, Tryz.ntmps16
    go_wp2_with fail
    go_ret
    exact ⟨by rw [HB.out]; rfl, (Below.refl _ _).alloc (Nat.le_refl _) _⟩
  have d4 : decide (9007199254740992 < N) = false := decide_eq_false c4
  have HFAR : Hid (farB F T N = true) := decide_eq_true (by omega)
  obtain ⟨W1, hW1⟩ : ∃ W1, W1 = w.alloc (.cells #[.slice a n cap, .int .i64 F, .int .i64 T, .int .i64 N] 24) := ⟨_, rfl⟩
  have hb1 : Below w.heap.size w W1 := by rw [hW1]; exact (Below.refl _ _).alloc (Nat.le_refl _) _
  have HI1 : Hid (Bk.Is W1 w.heap.size #[.slice a n cap, .int .i64 F, .int .i64 T, .int .i64 N] 24) := by show Bk.Is _ _ _ _; rw [hW1]; exact Bk.Is.made w _ _
  have HR1 := Lib.hid (hr.below hb1)
  have HW1 := Lib.hid hW1
  have HB1 := Lib.hid hb1
  have HFT : Hid (F ≤ T) := by show F ≤ T; omega
  clear hr c0 c1 c2 c3 c4 hb1 hW1
  go_enter Tryz.func16, Tryz.ntmps16
  go_wp2_with fail
  rw [← HW1.out]
  go_loopw [3, 4] (RSRel F T ss n W1) (fun _ vi _ => n - (intOf vi).toNat)
  case atStart => exact ⟨0, by omega, rfl, rfl, rfl, HFT.out, Below.refl _ _⟩
  case round =>
    obtain ⟨k, hk, rfl, rfl, hok, hlate, bw⟩ := hrel
    obtain ⟨la, hla⟩ : ∃ q, q = lastT F ss k := ⟨_, rfl⟩
    rw [← hla]
    have HLA := Lib.hid hla
    have HIW := HI1.out.below bw HI1.out.lt
    have cw0 : wr.cell? ⟨w.heap.size, 0, none⟩ = some (.slice a n cap) := by rw [HIW.cell]; rfl
    have cw1 : wr.cell? ⟨w.heap.size, 1, none⟩ = some (.int .i64 F) := by rw [HIW.cell]; rfl
    have cw2 : wr.cell? ⟨w.heap.size, 2, none⟩ = some (.int .i64 T) := by rw [HIW.cell]; rfl
    have HOK := Lib.hid hok
    have HLATE := Lib.hid hlate
    have BW := Lib.hid bw
    have HGE := Lib.hid (lastT_ge hok)
    clear hok hlate HIW hla
    by_cases hkn : k < n
    · have HRW := HR1.out.below bw
      obtain ⟨b, off, ha, hcell⟩ := HRW.2.2.2 (by omega)
      subst ha
      obtain ⟨e0, e1, e2⟩ := hcell k hkn
      have HKS : Hid (okK F ss (k + 1) = (okK F ss k && (!sS ss k && decide (lastT F ss k < tS ss k)))) := rfl
      obtain ⟨tk, htk⟩ : ∃ q, q = tS ss k := ⟨_, rfl⟩
      obtain ⟨vk, hvk⟩ : ∃ q, q = vS ss k := ⟨_, rfl⟩
      obtain ⟨st, hst⟩ : ∃ q, q = sS ss k := ⟨_, rfl⟩
      have HTK := Lib.hid htk
      have HST := Lib.hid hst
      rw [← htk] at e0
      rw [← hvk] at e1
      rw [← hst] at e2
      have hsz := bw.size
      have BAD : Hid (okK F ss (k + 1) = false → sndB F T N ss n = false) := fun h => snd_bad (j := k + 1) (by omega) h
      have GOOD : Hid (∀ w2, Below W1.heap.size W1 w2 → st = false → la < tk → tk ≤ T → RSRel F T ss n W1 (.int .i64 tk) (.int .i64 ((k + 1 : Nat) : Int)) w2) := fun w2 hb2 h1 h2 h3 =>
        ⟨k + 1, by omega, rfl, by rw [lastT_succ, ← HTK.out], by rw [HKS.out, HOK.out, ← HST.out, h1, ← HTK.out, ← HLA.out, decide_eq_true h2]; rfl, by rw [lastT_succ, ← HTK.out]; exact h3, hb2⟩
      have b2 := Lib.hid bw
      clear hvk
      cases st with
      | true =>
        have HRES : Hid (sndB F T N ss n = false) := BAD.out (by rw [HKS.out, ← HST.out]; simp)
        clear hcell HRW htk hst bw hk
        go_wp2_with fail
        go_quiet (fail)
        go_wp2_with fail
        go_ret
        exact ⟨by rw [HRES.out]; rfl, HB1.out.trans ((b2.out.drewN' _).mono HB1.out.size)⟩
      | false =>
        by_cases h3 : tk ≤ la
        · have HRES : Hid (sndB F T N ss n = false) := BAD.out (by rw [HKS.out, ← HTK.out, ← HLA.out, decide_eq_false (by omega)]; simp)
          have dd : decide (tk ≤ la) = true := decide_eq_true h3
          clear hcell HRW htk hst bw hk h3
          go_wp2_with fail
          go_quiet (fail)
          go_wp2_with fail
          go_ret
          exact ⟨by rw [HRES.out]; rfl, HB1.out.trans ((b2.out.drewN' _).mono HB1.out.size)⟩
        · have dd : decide (tk ≤ la) = false := decide_eq_false h3
          by_cases h4 : T < tk
          · have HRES : Hid (sndB F T N ss n = false) := snd_late hkn (by rw [← HTK.out]; exact h4)
            have dd2 : decide (T < tk) = true := decide_eq_true h4
            clear hcell HRW htk hst bw hk h3 h4
            go_wp2_with fail
            go_quiet (fail)
            go_wp2_with fail
            go_ret
            exact ⟨by rw [HRES.out]; rfl, HB1.out.trans ((b2.out.drewN' _).mono HB1.out.size)⟩
          · have dd2 : decide (T < tk) = false := decide_eq_false h4
            have HLT : Hid (la < tk) := by show la < tk; omega
            have HTT : Hid (tk ≤ T) := by show tk ≤ T; omega
            clear hcell HRW htk hst bw h3 h4
            go_wp2_with fail
            go_quiet (fail)
            go_wp2_with fail
            go_roundw
            case rel => exact GOOD.out _ (b2.out.drewN' _) trivial HLT.out HTT.out
            case measure => simp [intOf]; omega
    · obtain rfl : k = n := by omega
      go_wp2_with fail
      go_ret
      refine ⟨?_, HB1.out.trans (bw.mono HB1.out.size)⟩
      unfold sndB
      rw [HFAR.out, HOK.out, decide_eq_true HLATE.out]; rfl
end Go.Proofs.YtoeldcgclaiokaaGreat
