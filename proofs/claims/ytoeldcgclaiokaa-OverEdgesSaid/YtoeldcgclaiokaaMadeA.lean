/- weirlaw20.made: the window is sound. -/
import Derived.Test.YtoeldcgclaiokaaAliveA
import Derived.Deep.QuietTactic
import Derived.BigQuiet
namespace Go.Proofs.Ytoeldcgclaiokaa
open Go.Fl Go.Rel Go.RowKit
set_option linter.unusedVariables false
set_option linter.unusedSimpArgs false

theorem okK_step {F : Int} {ss : List Smp} {k : Nat} (h : okK F ss (k + 1) = true) : okK F ss k = true ∧ sS ss k = false ∧ lastT F ss k < tS ss k := by
  rw [okK, Bool.and_eq_true, Bool.and_eq_true, decide_eq_true_eq] at h
  exact ⟨h.1, by simpa using h.2.1, h.2.2⟩
theorem lastT_succ (F : Int) (ss : List Smp) (k : Nat) : lastT F ss (k + 1) = tS ss k := rfl
theorem lastT_ge {F : Int} {ss : List Smp} : ∀ {k : Nat}, okK F ss k = true → F ≤ lastT F ss k
  | 0, _ => Int.le_refl _
  | k + 1, h => by
    have ⟨h1, _, h3⟩ := okK_step h
    have := lastT_ge h1
    rw [lastT_succ]; omega
theorem lastT_mono {F : Int} {ss : List Smp} {j : Nat} : ∀ {k : Nat}, j ≤ k → okK F ss k = true → lastT F ss j ≤ lastT F ss k
  | 0, h, _ => by obtain rfl : j = 0 := by omega
                  exact Int.le_refl _
  | k + 1, h, hk => by
    by_cases e : j = k + 1
    · subst e; exact Int.le_refl _
    · have ⟨h1, _, h3⟩ := okK_step hk
      have := lastT_mono (j := j) (k := k) (by omega) h1
      rw [lastT_succ]; omega
/-- A point beyond the end: the window is not sound. -/
theorem snd_late {F T N : Int} {ss : List Smp} {n k : Nat} (hk : k < n) (h : T < tS ss k) : sndB F T N ss n = false := by
  cases hs : sndB F T N ss n with
  | false => rfl
  | true =>
    unfold sndB at hs
    rw [Bool.and_eq_true, Bool.and_eq_true, decide_eq_true_eq] at hs
    have := lastT_mono (F := F) (ss := ss) (j := k + 1) (k := n) hk hs.2.1
    rw [lastT_succ] at this
    omega

def MadeRel (F T : Int) (ss : List Smp) (n : Nat) (W1 : World) (vi : Value) (wr : World) : Prop :=
  ∃ k : Nat, k ≤ n ∧ vi = .int .i64 (k : Int) ∧ okK F ss k = true ∧ lastT F ss k ≤ T ∧ Below W1.heap.size W1 wr

set_option maxHeartbeats 4000000 in
set_option maxRecDepth 100000 in
theorem made_any (a : Option Addr) (n cap : Nat) (ss : List Smp) (F T N : Int) (w : World) (hr : SRow w a n ss) (hn : n < 17592186044416) :
    Calls Try.prog 20 #[winV a n cap F T N] w (BoolB (sndB F T N ss n) w) := by
  by_cases c0 : F < -9007199254740992
  · have HB : Hid (sndB F T N ss n = false) := snd_far (decide_eq_false (by omega))
    have d0 : decide (F < -9007199254740992) = true := decide_eq_true c0
    clear c0
    go_enter Try.func20, Try.ntmps20
    go_wp2_with fail
    go_ret
    exact ⟨by rw [HB.out]; rfl, (Below.refl _ _).alloc (Nat.le_refl _) _⟩
  have d0 : decide (F < -9007199254740992) = false := decide_eq_false c0
  by_cases c1 : 9007199254740992 < T
  · have HB : Hid (sndB F T N ss n = false) := snd_far (decide_eq_false (by omega))
    have d1 : decide (9007199254740992 < T) = true := decide_eq_true c1
    clear c0 c1
    go_enter Try.func20, Try.ntmps20
    go_wp2_with fail
    go_ret
    exact ⟨by rw [HB.out]; rfl, (Below.refl _ _).alloc (Nat.le_refl _) _⟩
  have d1 : decide (9007199254740992 < T) = false := decide_eq_false c1
  by_cases c2 : T < F
  · have HB : Hid (sndB F T N ss n = false) := snd_far (decide_eq_false (by omega))
    have d2 : decide (T < F) = true := decide_eq_true c2
    clear c0 c1 c2
    go_enter Try.func20, Try.ntmps20
    go_wp2_with fail
    go_ret
    exact ⟨by rw [HB.out]; rfl, (Below.refl _ _).alloc (Nat.le_refl _) _⟩
  have d2 : decide (T < F) = false := decide_eq_false c2
  by_cases c3 : N < -9007199254740992
  · have HB : Hid (sndB F T N ss n = false) := snd_far (decide_eq_false (by omega))
    have d3 : decide (N < -9007199254740992) = true := decide_eq_true c3
    clear c0 c1 c2 c3
    go_enter Try.func20, Try.ntmps20
    go_wp2_with fail
    go_ret
    exact ⟨by rw [HB.out]; rfl, (Below.refl _ _).alloc (Nat.le_refl _) _⟩
  have d3 : decide (N < -9007199254740992) = false := decide_eq_false c3
  by_cases c4 : 9007199254740992 < N
  · have HB : Hid (sndB F T N ss n = false) := snd_far (decide_eq_false (by omega))
    have d4 : decide (9007199254740992 < N) = true := decide_eq_true c4
    clear c0 c1 c2 c3 c4
    go_enter Try.func20, Try.ntmps20
    go_wp2_with fail
    go_ret
    exact ⟨by rw [HB.out]; rfl, (Below.refl _ _).alloc (Nat.le_refl _) _⟩
  have d4 : decide (9007199254740992 < N) = false := decide_eq_false c4
  have HFAR : Hid (farB F T N = true) := decide_eq_true (by omega)
  obtain ⟨W1, hW1⟩ : ∃ W1, W1 = w.alloc (.cells #[.slice a n cap, .int .i64 F, .int .i64 T, .int .i64 N] 30) := ⟨_, rfl⟩
  have hb1 : Below w.heap.size w W1 := by rw [hW1]; exact (Below.refl _ _).alloc (Nat.le_refl _) _
  have HI1 : Hid (Bk.Is W1 w.heap.size #[.slice a n cap, .int .i64 F, .int .i64 T, .int .i64 N] 30) := by show Bk.Is _ _ _ _; rw [hW1]; exact Bk.Is.made w _ _
  have HR1 := Lib.hid (hr.below hb1)
  have HW1 := Lib.hid hW1
  have HB1 := Lib.hid hb1
  have HFT : Hid (F ≤ T) := by show F ≤ T; omega
  clear hr c0 c1 c2 c3 c4 hb1 hW1
  go_enter Try.func20, Try.ntmps20
  go_wp2_with fail
  rw [← HW1.out]
  go_loopw [3] (MadeRel F T ss n W1) (fun vi _ => n - (intOf vi).toNat)
  case atStart => exact ⟨0, by omega, rfl, rfl, HFT.out, Below.refl _ _⟩
  case round =>
    obtain ⟨k, hk, rfl, hok, hlate, bw⟩ := hrel
    have HIW := HI1.out.below bw HI1.out.lt
    have cw0 : wr.cell? ⟨w.heap.size, 0, none⟩ = some (.slice a n cap) := by rw [HIW.cell]; rfl
    have cw1 : wr.cell? ⟨w.heap.size, 1, none⟩ = some (.int .i64 F) := by rw [HIW.cell]; rfl
    have cw2 : wr.cell? ⟨w.heap.size, 2, none⟩ = some (.int .i64 T) := by rw [HIW.cell]; rfl
    have HOK := Lib.hid hok
    have HLATE := Lib.hid hlate
    have BW := Lib.hid bw
    have HGE := Lib.hid (lastT_ge hok)
    clear hok hlate HIW
    by_cases hkn : k < n
    · have HRW := HR1.out.below bw
      obtain ⟨b, off, ha, hcell⟩ := HRW.2.2.2 (by omega)
      subst ha
      obtain ⟨e0, e1, e2⟩ := hcell k hkn
      have HKS : Hid (okK F ss (k + 1) = (okK F ss k && (!sS ss k && decide (lastT F ss k < tS ss k)))) := rfl
      obtain ⟨tk, htk⟩ : ∃ q, q = tS ss k := ⟨_, rfl⟩
      obtain ⟨vk, hvk⟩ : ∃ q, q = vS ss k := ⟨_, rfl⟩
      obtain ⟨st, hst⟩ : ∃ q, q = sS ss k := ⟨_, rfl⟩
      have HTK := Lib.hid htk
      have HST := Lib.hid hst
      rw [← htk] at e0
      rw [← hvk] at e1
      rw [← hst] at e2
      have hsz := bw.size
      have OLD : ∀ (q : Addr) v, wr.cell? q = some v → (wr.alloc (.cells #[.int .i64 tk, .float .f64 vk, .bool st] 45)).cell? q = some v := fun q v h => cell_old h _
      have g0 := OLD _ _ cw0
      have g1 := OLD _ _ cw1
      have g2 := OLD _ _ cw2
      have BAD : Hid (okK F ss (k + 1) = false → sndB F T N ss n = false) := fun h => snd_bad (j := k + 1) (by omega) h
      have GOOD : Hid (∀ w2, w2.heap.size = wr.heap.size + 1 → Below W1.heap.size W1 w2 → st = false → lastT F ss k < tk → tk ≤ T → MadeRel F T ss n W1 (.int .i64 ((k + 1 : Nat) : Int)) w2) := fun w2 _ hb2 h1 h2 h3 =>
        ⟨k + 1, by omega, rfl, by rw [HKS.out, HOK.out, ← HST.out, h1, ← HTK.out, decide_eq_true h2]; rfl, by rw [lastT_succ, ← HTK.out]; exact h3, hb2⟩
      have b2 := Lib.hid (bw.alloc hsz (.cells #[.int .i64 tk, .float .f64 vk, .bool st] 45))
      clear hvk
      cases st with
      | true =>
        have HRES : Hid (sndB F T N ss n = false) := BAD.out (by rw [HKS.out, ← HST.out]; simp)
        clear hcell HRW htk hst bw OLD hk
        go_wp2_with fail
        go_quiet (fail)
        go_wp2_with fail
        go_ret
        exact ⟨by rw [HRES.out]; rfl, HB1.out.trans ((b2.out.drewN' _).mono HB1.out.size)⟩
      | false =>
        by_cases h3 : T < tk
        · have HRES : Hid (sndB F T N ss n = false) := snd_late hkn (by rw [← HTK.out]; exact h3)
          have dd : decide (T < tk) = true := decide_eq_true h3
          clear hcell HRW htk hst bw OLD hk h3
          go_wp2_with fail
          go_quiet (fail)
          go_wp2_with fail
          go_ret
          exact ⟨by rw [HRES.out]; rfl, HB1.out.trans ((b2.out.drewN' _).mono HB1.out.size)⟩
        · have dd : decide (T < tk) = false := decide_eq_false h3
          by_cases h4 : tk ≤ F
          · have HRES : Hid (sndB F T N ss n = false) := BAD.out (by rw [HKS.out, ← HTK.out, decide_eq_false (by have := HGE.out; omega)]; simp)
            have dd2 : decide (tk ≤ F) = true := decide_eq_true h4
            clear hcell HRW htk hst bw OLD hk h3 h4
            go_wp2_with fail
            go_quiet (fail)
            go_wp2_with fail
            go_ret
            exact ⟨by rw [HRES.out]; rfl, HB1.out.trans ((b2.out.drewN' _).mono HB1.out.size)⟩
          · have dd2 : decide (tk ≤ F) = false := decide_eq_false h4
            by_cases h5 : k = 0
            · subst h5
              simp only [Nat.zero_mul, Nat.add_zero] at e0 e1 e2
              have HLT : Hid (lastT F ss 0 < tk) := by show F < tk; omega
              have HTT : Hid (tk ≤ T) := by show tk ≤ T; omega
              clear hcell HRW htk hst bw OLD h3 h4
              go_wp2_with fail
              go_quiet (fail)
              go_wp2_with fail
              go_roundw
              case rel => exact GOOD.out _ (by simp) (b2.out.drewN' _) trivial HLT.out HTT.out
              case measure => simp [intOf]; omega
            · obtain ⟨m, rfl⟩ : ∃ m, k = m + 1 := ⟨k - 1, by omega⟩
              have p0 := (hcell m (by omega)).1
              obtain ⟨tm, htm⟩ : ∃ q, q = tS ss m := ⟨_, rfl⟩
              have HTM : Hid (lastT F ss (m + 1) = tm) := by show _ = _; rw [lastT_succ, htm]
              rw [← htm] at p0
              have g3 := OLD _ _ p0
              have hwm : IntKind.i64.wrap ((m : Int) + 1 - 1) = (m : Int) := by rw [IntKind.wrap_i64]; omega
              have hpos : decide ((0 : Int) < (m : Int) + 1) = true := decide_eq_true (by omega)
              by_cases h6 : tk ≤ tm
              · have HRES : Hid (sndB F T N ss n = false) := BAD.out (by rw [HKS.out, HTM.out, ← HTK.out, decide_eq_false (by omega)]; simp)
                have dd3 : decide (tk ≤ tm) = true := decide_eq_true h6
                clear hcell HRW htk hst htm bw OLD h3 h4 h6 hk
                go_wp2_with fail
                go_quiet (fail)
                go_wp2_with fail
                go_ret
                exact ⟨by rw [HRES.out]; rfl, HB1.out.trans ((b2.out.drewN' _).mono HB1.out.size)⟩
              · have dd3 : decide (tk ≤ tm) = false := decide_eq_false h6
                have HLT : Hid (lastT F ss (m + 1) < tk) := by show lastT F ss (m + 1) < tk; rw [HTM.out]; omega
                have HTT : Hid (tk ≤ T) := by show tk ≤ T; omega
                clear hcell HRW htk hst htm bw OLD h3 h4 h6
                go_wp2_with fail
                go_quiet (fail)
                go_wp2_with fail
                go_roundw
                case rel => exact GOOD.out _ (by simp) (b2.out.drewN' _) trivial HLT.out HTT.out
                case measure => simp [intOf]; omega
    · obtain rfl : k = n := by omega
      go_wp2_with fail
      go_ret
      refine ⟨?_, HB1.out.trans (bw.mono HB1.out.size)⟩
      unfold sndB
      rw [HFAR.out, HOK.out, decide_eq_true HLATE.out]; rfl
end Go.Proofs.Ytoeldcgclaiokaa
