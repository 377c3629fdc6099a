/- Dates as a request writes them: what both read. -/
import Derived.Test.YtmgnhekpgeahmaaDoorDateZone
namespace Go.Proofs.YtmgnhekpgeahmaaDoor
open Go.Dur Go.Fl Go.RowKit

/-- The day and time that the bytes tell: its ms, its error. -/
def civR (s : ByteArray) : Int × Int := momR (pairN s 0 * 100 + pairN s 2) (pairN s 5) (pairN s 8) (pairN s 11) (pairN s 14) (pairN s 17) 0
def ptR (s : ByteArray) : ByteArray × Nat × Bool := pointV s 19
def zoR (s : ByteArray) : Int × Bool := zoneR (s.extract (ptR s).2.1 s.size)
def upD (h : Int) : Int := if 0 ≤ h then 1 else 0
/-- The ms of the whole. -/
def datT (s : ByteArray) : Int := (civR s).1 + ((milN (ptR s).1 3 : Nat) : Int) + upD (halfN (ptR s).1)

def datOk (s : ByteArray) : Bool := decide (20 ≤ s.size) && marksN s 5 && decide (0 ≤ pairN s 0 ∧ 0 ≤ pairN s 2) && decide ((civR s).2 = 0) && (ptR s).2.2 && (zoR s).2
def datedV (s : ByteArray) : Value := if datOk s = true then .tuple #[.int .i64 (datT s - (zoR s).1), .bool true] else .tuple #[.int .i64 0, .bool false]

/-- The form's letters. -/
def fC (k : Nat) : Nat := if k = 4 ∨ k = 7 then 45 else if k = 10 then 84 else if k = 13 ∨ k = 16 then 58 else 100
def okAt (s : ByteArray) (k : Nat) : Bool := if fC k = 100 then isD (bt s k) else decide (bt s k = fC k)
def formN (s : ByteArray) : Nat → Bool
  | 0 => true
  | k + 1 => formN s k && okAt s k
theorem form_mono (s : ByteArray) {j k : Nat} (h : j ≤ k) (hj : formN s j = false) : formN s k = false := by
  induction k with
  | zero => obtain rfl : j = 0 := by omega
            exact hj
  | succ k ih =>
    by_cases e : j = k + 1
    · subst e; exact hj
    · rw [formN, ih (by omega)]; rfl

def datRok (s : ByteArray) : Bool := decide (19 ≤ s.size) && formN s 19 && decide ((civR s).2 = 0) && (ptR s).2.2
def dateV (s : ByteArray) : Value := if datRok s = true then .tuple #[.int .i64 (datT s - (zoR s).1), .bool (zoR s).2] else .tuple #[.int .i64 0, .bool false]

theorem pair_pos {s : ByteArray} {i : Nat} : 0 ≤ pairN s i ↔ (i + 2 ≤ s.size ∧ isD (bt s i) = true ∧ isD (bt s (i + 1)) = true) := by
  unfold pairN
  constructor
  · intro h
    split at h
    · assumption
    · omega
  · intro h
    rw [if_pos h]
    have h1 := dig_bounds h.2.1
    have h2 := dig_bounds h.2.2
    omega

theorem form_all (s : ByteArray) : formN s 19 = true ↔ (marksN s 5 = true ∧ isD (bt s 0) = true ∧ isD (bt s 1) = true ∧ isD (bt s 2) = true ∧ isD (bt s 3) = true ∧ isD (bt s 5) = true ∧ isD (bt s 6) = true ∧ isD (bt s 8) = true ∧ isD (bt s 9) = true ∧ isD (bt s 11) = true ∧ isD (bt s 12) = true ∧ isD (bt s 14) = true ∧ isD (bt s 15) = true ∧ isD (bt s 17) = true ∧ isD (bt s 18) = true) := by
  simp [formN, okAt, fC, marksN, markP, markC]
  constructor
  · intro h; simp [h]
  · intro h; simp [h]

theorem civ_zero {s : ByteArray} (h : (civR s).2 = 0) : 0 ≤ pairN s 5 ∧ 0 ≤ pairN s 8 ∧ 0 ≤ pairN s 11 ∧ 0 ≤ pairN s 14 ∧ 0 ≤ pairN s 17 := by
  unfold civR momR at h
  split at h
  · simp at h
  · split at h
    · omega
    · simp at h

/-- The two forms are one. -/
theorem dat_forms (s : ByteArray) : (datOk s = (datRok s && (zoR s).2)) := by
  rw [Bool.eq_iff_iff]
  unfold datOk datRok
  simp only [Bool.and_eq_true, decide_eq_true_eq]
  rw [form_all]
  constructor
  · rintro ⟨⟨⟨⟨⟨h1, h2⟩, h3, h4⟩, h5⟩, h6⟩, h7⟩
    obtain ⟨p5, p8, p11, p14, p17⟩ := civ_zero h5
    rw [pair_pos] at h3 h4 p5 p8 p11 p14 p17
    exact ⟨⟨⟨⟨by omega, h2, h3.2.1, h3.2.2, h4.2.1, h4.2.2, p5.2.1, p5.2.2, p8.2.1, p8.2.2, p11.2.1, p11.2.2, p14.2.1, p14.2.2, p17.2.1, p17.2.2⟩, h5⟩, h6⟩, h7⟩
  · rintro ⟨⟨⟨⟨h1, h2, d0, d1, d2, d3, _⟩, h5⟩, h6⟩, h7⟩
    have h20 : 20 ≤ s.size := by
      by_cases h20 : 20 ≤ s.size
      · exact h20
      · exfalso
        have hp : ptR s = (⟨#[]⟩, 19, true) := by unfold ptR pointV; rw [if_pos (.inl (by omega))]
        have he : s.extract 19 s.size = ⟨#[]⟩ := by
          have : (s.extract 19 s.size).size = 0 := by rw [ByteArray.size_extract]; omega
          generalize s.extract 19 s.size = x at this
          obtain ⟨⟨l⟩⟩ := x
          have h0 : l.length = 0 := this
          rw [List.length_eq_zero_iff.1 h0]
        unfold zoR at h7
        rw [hp] at h7
        dsimp only at h7
        rw [he] at h7
        revert h7
        decide +kernel
    exact ⟨⟨⟨⟨⟨h20, h2⟩, pair_pos.2 ⟨by omega, d0, d1⟩, pair_pos.2 ⟨by omega, d2, d3⟩⟩, h5⟩, h6⟩, h7⟩

theorem dayNum_le (y m d : Int) (hy0 : 0 ≤ y) (hy1 : y ≤ 9999) (hm0 : 1 ≤ m) (hm1 : m ≤ 12) (hd0 : 1 ≤ d) (hd1 : d ≤ 31) : -800000 ≤ dayNum y m d ∧ dayNum y m d ≤ 3000000 := by
  unfold dayNum doyM
  dsimp only
  split <;> omega

theorem civ_le (s : ByteArray) : -1000000000000000 ≤ (civR s).1 ∧ (civR s).1 ≤ 1000000000000000 := by
  unfold civR momR
  generalize pairN s 0 * 100 + pairN s 2 = y
  generalize pairN s 5 = mo
  generalize pairN s 8 = d
  generalize pairN s 11 = h
  generalize pairN s 14 = mi
  generalize pairN s 17 = sc
  split
  · simp
  · split
    · rename_i h1 h2
      have hd := mdays_le y mo
      have := dayNum_le y mo d (by omega) (by omega) (by omega) (by omega) (by omega) (by omega)
      unfold momVal
      dsimp only
      omega
    · simp

theorem zone_le (t : ByteArray) : -6000000000 ≤ (zoneR t).1 ∧ (zoneR t).1 ≤ 6000000000 := by
  have h1 := pair_ge t 1
  have h4 := pair_ge t 4
  unfold zoneR
  split
  · simp
  · split
    · simp
    · split
      · simp
      · dsimp only; split <;> omega

theorem allD_pt (s : ByteArray) : AllD (ptR s).1 := by
  unfold ptR pointV
  split
  · exact allD_empty
  · rename_i h
    exact allD_part s (by omega)
theorem pt_size (s : ByteArray) : (ptR s).1.size ≤ s.size ∧ (19 ≤ s.size → (ptR s).2.1 ≤ s.size) := by
  unfold ptR pointV
  split
  · exact ⟨Nat.zero_le _, fun h => h⟩
  · rename_i h
    exact ⟨by dsimp only; rw [ByteArray.size_extract]; omega, fun _ => runE_le s (by omega)⟩
theorem mil_pt (s : ByteArray) : milN (ptR s).1 3 ≤ 999 := mil_le _ (allD_pt s) 3 (by omega)

end Go.Proofs.YtmgnhekpgeahmaaDoor
