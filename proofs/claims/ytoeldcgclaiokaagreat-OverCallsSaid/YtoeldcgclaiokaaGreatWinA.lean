/- Windows: is one sound? -/
import Derived.Test.YtoeldcgclaiokaaGreatSamp
import Derived.Test.YtoeldcgclaiokaaGreatLineAll
namespace Go.Proofs.YtoeldcgclaiokaaGreat
open Go.Fl Go.Rel Go.RowKit

/-- A window's value. -/
abbrev winV (a : Option Addr) (n cap : Nat) (F T N : Int) : Value := .agg #[.slice a n cap, .int .i64 F, .int .i64 T, .int .i64 N]

/-- The time ahead of the k-th point. -/
def lastT (F : Int) (ss : List Smp) (k : Nat) : Int := if k = 0 then F else tS ss (k - 1)
def okK (F : Int) (ss : List Smp) : Nat → Bool
  | 0 => true
  | k + 1 => okK F ss k && (!sS ss k && decide (lastT F ss k < tS ss k))
def farB (F T N : Int) : Bool := decide (-9007199254740992 ≤ F ∧ F ≤ T ∧ T ≤ 9007199254740992 ∧ -9007199254740992 ≤ N ∧ N ≤ 9007199254740992)
def sndB (F T N : Int) (ss : List Smp) (n : Nat) : Bool := farB F T N && (okK F ss n && decide (lastT F ss n ≤ T))
def BoolB (b : Bool) (w : World) (e : Ending) (w' : World) : Prop := e = .returned (.bool b) ∧ Below w.heap.size w w'

theorem okK_le {F : Int} {ss : List Smp} {j : Nat} : ∀ {k : Nat}, j ≤ k → okK F ss k = true → okK F ss j = true := by
  intro k
  induction k with
  | zero => intro h hk; obtain rfl : j = 0 := by omega
            exact hk
  | succ k ih =>
    intro h hk
    by_cases hj : j = k + 1
    · subst hj; exact hk
    · rw [okK, Bool.and_eq_true] at hk
      exact ih (by omega) hk.1
theorem okK_bad {F : Int} {ss : List Smp} {j k : Nat} (h : j ≤ k) (hb : okK F ss j = false) : okK F ss k = false := by
  cases hk : okK F ss k with
  | false => rfl
  | true => rw [okK_le h hk] at hb; cases hb
theorem snd_bad {F T N : Int} {ss : List Smp} {n j : Nat} (h : j ≤ n) (hb : okK F ss j = false) : sndB F T N ss n = false := by
  unfold sndB; rw [okK_bad h hb]; simp
theorem snd_far {F T N : Int} {ss : List Smp} {n : Nat} (h : farB F T N = false) : sndB F T N ss n = false := by unfold sndB; rw [h]; rfl

def SoundRel (F : Int) (ss : List Smp) (n : Nat) (W1 : World) (va vi : Value) (wr : World) : Prop :=
  ∃ k : Nat, k ≤ n ∧ vi = .int .i64 (k : Int) ∧ va = .int .i64 (lastT F ss k) ∧ okK F ss k = true ∧ Below W1.heap.size W1 wr

set_option maxHeartbeats 4000000 in
set_option maxRecDepth 100000 in
theorem sound_any (a : Option Addr) (n cap : Nat) (ss : List Smp) (F T N : Int) (w : World) (hr : SRow w a n ss) :
    Calls Tryz.prog 23 #[winV a n cap F T N] w (BoolB (sndB F T N ss n) w) := by
  by_cases c0 : F < -9007199254740992
  · have HB : Hid (sndB F T N ss n = false) := snd_far (decide_eq_false (by omega))
    have d0 : decide (F < -9007199254740992) = true := decide_eq_true c0
    clear c0
    go_enter Tryz.func23, Tryz.ntmps23
    go_wp2_with fail
    go_ret
    exact ⟨by rw [HB.out]; rfl, (Below.refl _ _).alloc (Nat.le_refl _) _⟩
  have d0 : decide (F < -9007199254740992) = false := decide_eq_false c0
  by_cases c1 : T < F
  · have HB : Hid (sndB F T N ss n = false) := snd_far (decide_eq_false (by omega))
    have d1 : decide (T < F) = true := decide_eq_true c1
    clear c0 c1
    go_enter Tryz.func23, Tryz.ntmps23
    go_wp2_with fail
    go_ret
    exact ⟨by rw [HB.out]; rfl, (Below.refl _ _).alloc (Nat.le_refl _) _⟩
  have d1 : decide (T < F) = false := decide_eq_false c1
  by_cases c2 : 9007199254740992 < T
  · have HB : Hid (sndB F T N ss n = false) := snd_far (decide_eq_false (by omega))
    have d2 : decide (9007199254740992 < T) = true := decide_eq_true c2
    clear c0 c1 c2
    go_enter Tryz.func23, Tryz.ntmps23
    go_wp2_with fail
    go_ret
    exact ⟨by rw [HB.out]; rfl, (Below.refl _ _).alloc (Nat.le_refl _) _⟩
  have d2 : decide (9007199254740992 < T) = false := decide_eq_false c2
  by_cases c3 : N < -9007199254740992
  · have HB : Hid (sndB F T N ss n = false) := snd_far (decide_eq_false (by omega))
    have d3 : decide (N < -9007199254740992) = true := decide_eq_true c3
    clear c0 c1 c2 c3
    go_enter Tryz.func23, Tryz.ntmps23
    go_wp2_with fail
    go_ret
    exact ⟨by rw [HB.out]; rfl, (Below.refl _ _).alloc (Nat.le_refl _) _⟩
  have d3 : decide (N < -9007199254740992) = false := decide_eq_false c3
  by_cases c4 : 9007199254740992 < N
  · have HB : Hid (sndB F T N ss n = false) := snd_far (decide_eq_false (by omega))
    have d4 : decide (9007199254740992 < N) = true := decide_eq_true c4
    clear c0 c1 c2 c3 c4
    go_enter Tryz.func23, Tryz.ntmps23
    go_wp2_with fail
    go_ret
    exact ⟨by rw [HB.out]; rfl, (Below.refl _ _).alloc (Nat.le_refl _) _⟩
  have d4 : decide (9007199254740992 < N) = false := decide_eq_false c4
  have HFAR : Hid (farB F T N = true) := decide_eq_true (by omega)
  have hn := hr.2.1
  obtain ⟨W1, hW1⟩ : ∃ W1, W1 = w.alloc (.cells #[.slice a n cap, .int .i64 F, .int .i64 T, .int .i64 N] 24) := ⟨_, rfl⟩
  have hb1 : Below w.heap.size w W1 := by rw [hW1]; exact (Below.refl _ _).alloc (Nat.le_refl _) _
  have HR1 := Lib.hid (hr.below hb1)
  have hcT : W1.cell? ⟨w.heap.size, 2, none⟩ = some (.int .i64 T) := by rw [hW1, World.cell?_alloc_at _ _ _ _ rfl]; rfl
  have hlt : w.heap.size < W1.heap.size := by rw [hW1]; simp
  have HW1 := Lib.hid hW1
  have HB1 := Lib.hid hb1
  clear hr c0 c1 c2 c3 c4 hb1 hW1
  go_enter Tryz.func23, Tryz.ntmps23
  go_wp2_with fail
  rw [← HW1.out]
  go_loopw [3, 36] (SoundRel F ss n W1) (fun _ vi _ => n - (intOf vi).toNat)
  case atStart => exact ⟨0, by omega, rfl, rfl, rfl, Below.refl _ _⟩
  case round =>
    obtain ⟨k, hk, rfl, rfl, hok, bw⟩ := hrel
    have hcT2 : wr.cell? ⟨w.heap.size, 2, none⟩ = some (.int .i64 T) := by rw [bw.cell (p := ⟨w.heap.size, 2, none⟩) hlt]; exact hcT
    have HOK := Lib.hid hok
    have hsz := bw.size
    obtain ⟨at_, hat⟩ : ∃ q, q = lastT F ss k := ⟨_, rfl⟩
    rw [← hat]
    have HAT := Lib.hid hat
    clear hat hok
    by_cases hkn : k < n
    · have HRW := HR1.out.below bw
      obtain ⟨b, off, ha, hcell⟩ := HRW.2.2.2 (by omega)
      subst ha
      obtain ⟨e0, e1, e2⟩ := hcell k hkn
      have HLT : Hid (lastT F ss (k + 1) = tS ss k) := rfl
      have HKS : Hid (okK F ss (k + 1) = (okK F ss k && (!sS ss k && decide (lastT F ss k < tS ss k)))) := rfl
      have HTT := HRW.2.2.1 k
      obtain ⟨tk, htk⟩ : ∃ q, q = tS ss k := ⟨_, rfl⟩
      obtain ⟨st, hst⟩ : ∃ q, q = sS ss k := ⟨_, rfl⟩
      have HTK := Lib.hid htk
      have HST := Lib.hid hst
      rw [← htk] at e0 HTT
      rw [← hst] at e2
      clear hcell HRW htk hst
      cases st with
      | true =>
        go_wp2_with fail
        go_ret
        exact ⟨by rw [snd_bad (j := k + 1) (by omega) (by rw [HKS.out, ← HST.out]; simp)]; rfl, HB1.out.trans ((bw.alloc hsz _).mono HB1.out.size)⟩
      | false =>
        by_cases hlt2 : at_ < tk
        · have dd : decide (tk ≤ at_) = false := decide_eq_false (by omega)
          go_wp2_with fail
          go_roundw
          case rel => exact ⟨k + 1, by omega, by go_num, by rw [HLT.out, ← HTK.out], by rw [HKS.out, HOK.out, ← HST.out, ← HTK.out, ← HAT.out, decide_eq_true hlt2]; rfl, bw.alloc hsz _⟩
          case measure => simp [intOf]; omega
        · have dd : decide (tk ≤ at_) = true := decide_eq_true (by omega)
          go_wp2_with fail
          go_ret
          exact ⟨by rw [snd_bad (j := k + 1) (by omega) (by rw [HKS.out, ← HTK.out, ← HAT.out, decide_eq_false (by omega)]; simp)]; rfl, HB1.out.trans ((bw.alloc hsz _).mono HB1.out.size)⟩
    · obtain rfl : k = n := by omega
      go_wp2_with fail
      go_ret
      refine ⟨?_, HB1.out.trans (bw.mono HB1.out.size)⟩
      unfold sndB
      rw [HFAR.out, HOK.out, ← HAT.out]
      rfl
end Go.Proofs.YtoeldcgclaiokaaGreat
