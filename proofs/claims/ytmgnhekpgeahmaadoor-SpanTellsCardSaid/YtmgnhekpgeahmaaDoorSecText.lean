/- The text of seconds: what is read from it. -/
import Derived.Test.YtmgnhekpgeahmaaDoorStamps
import Derived.Test.YtmgnhekpgeahmaaDoorDateText
import Derived.Test.YtmgnhekpgeahmaaDoorDurText
namespace Go.Proofs.YtmgnhekpgeahmaaDoor
open Go.Dur Go.Fl Go.RowKit
open Go.Lib (decDigits)

/-- Thousandths behind a point, without noughts at their end. -/
def frG (n : Nat) : List UInt8 := if n % 10 ≠ 0 then [dgt n 100, dgt n 10, dgt n 1] else if n / 10 % 10 ≠ 0 then [dgt n 100, dgt n 10] else [dgt n 100]
def frL (n : Nat) : List UInt8 := if n = 0 then [] else 46 :: frG n
def sgL (t : Int) : List UInt8 := if t < 0 then [45] else []
def secL (t : Int) : List UInt8 := sgL t ++ decDigits (t.natAbs / 1000) ++ frL (t.natAbs % 1000)

theorem secL_ne (t : Int) : secL t ≠ [] := by
  unfold secL
  have := dec_ne (t.natAbs / 1000)
  intro h
  have hl := congrArg List.length h
  simp only [List.length_append, List.length_nil] at hl
  exact this (List.length_eq_zero_iff.1 (by omega))
theorem frG_dig (n : Nat) : ∀ c, c ∈ frG n → isD c.toNat = true := by
  intro c hc
  unfold frG at hc
  split at hc
  · simp at hc; rcases hc with rfl | rfl | rfl <;> exact isD_dgt _ _
  · split at hc
    · simp at hc; rcases hc with rfl | rfl <;> exact isD_dgt _ _
    · simp at hc; rcases hc with rfl; exact isD_dgt _ _
theorem frG_len (n : Nat) : 1 ≤ (frG n).length ∧ (frG n).length ≤ 3 := by unfold frG; split; simp; split <;> simp
theorem bt_end (l : List UInt8) {i : Nat} (h : l.length ≤ i) : bt ⟨l.toArray⟩ i = 0 := bt_out (by show l.toArray.size ≤ i; simpa using h)
theorem mil_frG (n : Nat) (h : n ≤ 999) : milN ⟨(frG n).toArray⟩ 3 = n := by
  unfold frG
  split
  · rename_i h0
    have b0 : bt ⟨([dgt n 100, dgt n 10, dgt n 1] : List UInt8).toArray⟩ 0 = (dgt n 100).toNat := rfl
    have b1 : bt ⟨([dgt n 100, dgt n 10, dgt n 1] : List UInt8).toArray⟩ 1 = (dgt n 10).toNat := rfl
    have b2 : bt ⟨([dgt n 100, dgt n 10, dgt n 1] : List UInt8).toArray⟩ 2 = (dgt n 1).toNat := rfl
    simp only [milN, dv, b0, b1, b2, dgt_nat]; omega
  · split
    · have b0 : bt ⟨([dgt n 100, dgt n 10] : List UInt8).toArray⟩ 0 = (dgt n 100).toNat := rfl
      have b1 : bt ⟨([dgt n 100, dgt n 10] : List UInt8).toArray⟩ 1 = (dgt n 10).toNat := rfl
      have b2 : bt ⟨([dgt n 100, dgt n 10] : List UInt8).toArray⟩ 2 = 0 := rfl
      simp only [milN, dv, b0, b1, b2, dgt_nat]; omega
    · have b0 : bt ⟨([dgt n 100] : List UInt8).toArray⟩ 0 = (dgt n 100).toNat := rfl
      have b1 : bt ⟨([dgt n 100] : List UInt8).toArray⟩ 1 = 0 := rfl
      have b2 : bt ⟨([dgt n 100] : List UInt8).toArray⟩ 2 = 0 := rfl
      simp only [milN, dv, b0, b1, b2, dgt_nat]; omega
theorem half_short {t : ByteArray} (h : t.size < 4) : halfN t = -1 := by unfold halfN; rw [if_pos (.inl h)]

theorem extract_mid (A D F : List UInt8) : (⟨(A ++ D ++ F).toArray⟩ : ByteArray).extract A.length (A.length + D.length) = ⟨D.toArray⟩ := by
  apply ByteArray.ext
  rw [ByteArray.data_extract]
  apply Array.ext'
  simp

theorem sat_dec (n : Nat) : satN ⟨(decDigits n).toArray⟩ (⟨(decDigits n).toArray⟩ : ByteArray).size = min n (Dur.M + 1) := by
  have h := decN_dec n []
  rw [List.append_nil] at h
  unfold satN
  rw [show (⟨(decDigits n).toArray⟩ : ByteArray).size = (decDigits n).length by show (decDigits n).toArray.size = _; simp, h]

theorem isD_lt {c : Nat} (h : isD c = true) : 48 ≤ c ∧ c ≤ 57 := by unfold isD at h; simpa using h

/-- What the readers see in the text. -/
theorem sec_parts (t : Int) : secOk ⟨(secL t).toArray⟩ = true ∧ minusB ⟨(secL t).toArray⟩ = decide (t < 0) ∧ wholeS ⟨(secL t).toArray⟩ = ⟨(decDigits (t.natAbs / 1000)).toArray⟩ ∧ fracS ⟨(secL t).toArray⟩ = ⟨((frL (t.natAbs % 1000)).drop 1).toArray⟩ := by
  obtain ⟨A, hA⟩ : ∃ A, A = sgL t := ⟨_, rfl⟩
  obtain ⟨D, hD⟩ : ∃ D, D = decDigits (t.natAbs / 1000) := ⟨_, rfl⟩
  obtain ⟨F, hF⟩ : ∃ F, F = frL (t.natAbs % 1000) := ⟨_, rfl⟩
  have eS : secL t = A ++ D ++ F := by rw [hA, hD, hF]; rfl
  have hDd : ∀ c, c ∈ D → isD c.toNat = true := by rw [hD]; exact dec_dig _
  have hDn : D ≠ [] := by rw [hD]; exact dec_ne _
  have hDl : 1 ≤ D.length := by
    cases hl : D with
    | nil => exact absurd hl hDn
    | cons c r => simp
  have hFd : isD (bt ⟨F.toArray⟩ 0) = false := by
    rw [hF]; unfold frL; split
    · rfl
    · rfl
  rw [eS, ← hD, ← hF]
  have hsz : (⟨(A ++ D ++ F).toArray⟩ : ByteArray).size = A.length + D.length + F.length := by show (A ++ D ++ F).toArray.size = _; simp; omega
  have hD0 : isD (bt ⟨(A ++ D ++ F).toArray⟩ A.length) = true := by
    have := bt_app A (D ++ F) 0
    rw [Nat.add_zero, ← List.append_assoc] at this
    rw [this]
    cases hl : D with
    | nil => exact absurd hl hDn
    | cons c r => exact hDd c (by rw [hl]; exact List.mem_cons_self)
  have hI : secI ⟨(A ++ D ++ F).toArray⟩ = A.length ∧ minusB ⟨(A ++ D ++ F).toArray⟩ = decide (t < 0) := by
    unfold secI minusB
    by_cases ht : t < 0
    · have hAe : A = [45] := by rw [hA]; unfold sgL; rw [if_pos ht]
      subst hAe
      have b0 : bt ⟨([45] ++ D ++ F).toArray⟩ 0 = 45 := rfl
      rw [b0]
      exact ⟨rfl, by simp [ht]⟩
    · have hAe : A = [] := by rw [hA]; unfold sgL; rw [if_neg ht]
      subst hAe
      have := isD_lt hD0
      rw [show ([] : List UInt8).length = 0 from rfl] at this
      refine ⟨by rw [if_neg (by omega)]; rfl, ?_⟩
      rw [decide_eq_false ht, decide_eq_false (by omega)]
  have hJ : secJ ⟨(A ++ D ++ F).toArray⟩ = A.length + D.length := by
    unfold secJ
    rw [hI.1]
    exact runE_app A D F hDd hFd
  have hW : wholeS ⟨(A ++ D ++ F).toArray⟩ = ⟨D.toArray⟩ := by
    unfold wholeS
    rw [hI.1, hJ, extract_mid]
  refine ⟨?_, hI.2, hW, ?_⟩
  · unfold secOk
    rw [hI.1, hJ, hsz]
    by_cases h0 : t.natAbs % 1000 = 0
    · have hFe : F = [] := by rw [hF]; unfold frL; rw [if_pos h0]
      subst hFe
      simp; omega
    · have hFe : F = 46 :: frG (t.natAbs % 1000) := by rw [hF]; unfold frL; rw [if_neg h0]
      have hg := frG_len (t.natAbs % 1000)
      have b : bt ⟨(A ++ D ++ F).toArray⟩ (A.length + D.length) = 46 := by
        have := bt_app (A ++ D) F 0
        rw [Nat.add_zero, List.length_append] at this
        rw [this, hFe]; rfl
      have r : runE ⟨(A ++ D ++ F).toArray⟩ (A.length + D.length + 1) = A.length + D.length + F.length := by
        have := runE_app (A ++ D ++ [46]) (frG (t.natAbs % 1000)) [] (frG_dig _) rfl
        rw [List.append_nil, List.append_assoc (A ++ D) [46]] at this
        rw [show ([46] : List UInt8) ++ frG (t.natAbs % 1000) = F from hFe.symm] at this
        have hl3 : (A ++ D ++ [46]).length = A.length + D.length + 1 := by simp only [List.length_append, List.length_cons, List.length_nil]
        rw [hl3] at this
        rw [this, hFe]; simp only [List.length_cons]; omega
      have hFl : F.length = (frG (t.natAbs % 1000)).length + 1 := by rw [hFe]; rfl
      rw [b, r]
      rw [Bool.and_eq_true, Bool.or_eq_true, Bool.and_eq_true, Bool.and_eq_true]
      exact ⟨decide_eq_true (by omega), .inr ⟨⟨decide_eq_true rfl, decide_eq_true (by omega)⟩, decide_eq_true rfl⟩⟩
  · unfold fracS
    rw [hJ, hsz]
    by_cases h0 : t.natAbs % 1000 = 0
    · have hFe : F = [] := by rw [hF]; unfold frL; rw [if_pos h0]
      subst hFe
      rw [if_pos (by simp)]
      rfl
    · have hFe : F = 46 :: frG (t.natAbs % 1000) := by rw [hF]; unfold frL; rw [if_neg h0]
      rw [if_neg (by rw [hFe]; simp)]
      have := extract_tail (A ++ D ++ [46]) (frG (t.natAbs % 1000))
      have hl3 : (A ++ D ++ [46]).length = A.length + D.length + 1 := by simp only [List.length_append, List.length_cons, List.length_nil]
      rw [List.append_assoc (A ++ D) [46], show ([46] : List UInt8) ++ frG (t.natAbs % 1000) = F from hFe.symm, hl3, hsz] at this
      rw [this, hFe]
      rfl

theorem secL_len (t : Int) (h0 : -9223372036854775808 ≤ t) (h1 : t ≤ 9223372036854775807) : (secL t).length ≤ 24 := by
  unfold secL
  have hd := dec_len 17 (t.natAbs / 1000) (by omega)
  have hs : (sgL t).length ≤ 1 := by unfold sgL; split <;> simp
  have hf : (frL (t.natAbs % 1000)).length ≤ 4 := by
    unfold frL
    have := frG_len (t.natAbs % 1000)
    split
    · simp
    · simp; omega
  simp only [List.length_append]
  omega

theorem rng_far {u v : Int} (hu : u < -62167219200000 ∨ 253402300799999 < u) (hv : v < -62167219200000 ∨ 253402300799999 < v) : rng u = rng v := by
  unfold rng; rw [if_pos hu, if_pos hv]

/-- A time's seconds are read as that time. -/
theorem stN_sec (t : Int) (h0 : -9223372036854775808 ≤ t) (h1 : t ≤ 9223372036854775807) : stN ⟨(secL t).toArray⟩ = rng t := by
  obtain ⟨p1, p2, p3, p4⟩ := sec_parts t
  have hl := secL_len t h0 h1
  have hsz : (⟨(secL t).toArray⟩ : ByteArray).size = (secL t).length := by show (secL t).toArray.size = _; simp
  unfold stN
  rw [if_neg (by rw [hsz]; omega), if_pos p1]
  have hmil : milN ⟨((frL (t.natAbs % 1000)).drop 1).toArray⟩ 3 = t.natAbs % 1000 ∧ halfN ⟨((frL (t.natAbs % 1000)).drop 1).toArray⟩ = -1 := by
    unfold frL
    by_cases h : t.natAbs % 1000 = 0
    · rw [if_pos h, h]
      exact ⟨rfl, rfl⟩
    · rw [if_neg h]
      have hg := frG_len (t.natAbs % 1000)
      exact ⟨mil_frG _ (by omega), half_short (by show (frG (t.natAbs % 1000)).toArray.size < 4; simp; omega)⟩
  have hp : plainN ⟨(secL t).toArray⟩ = if t < 0 then -((min (t.natAbs / 1000) (Dur.M + 1) * 1000 + t.natAbs % 1000 : Nat) : Int) else ((min (t.natAbs / 1000) (Dur.M + 1) * 1000 + t.natAbs % 1000 : Nat) : Int) := by
    unfold plainN
    rw [p2, p3, p4, sat_dec, hmil.1, hmil.2]
    have : upN (-1) (decide (t < 0)) = 0 := by unfold upN; rw [if_neg (by omega)]
    rw [this, Nat.add_zero]
    by_cases ht : t < 0
    · rw [if_pos ht, if_pos (decide_eq_true ht)]
    · rw [if_neg ht, if_neg (by simpa using ht)]
  rw [hp]
  have hM : Dur.M = 315360000000000 := rfl
  by_cases hb : t.natAbs / 1000 ≤ Dur.M
  · rw [Nat.min_eq_left (by omega)]
    congr 1
    split <;> omega
  · rw [Nat.min_eq_right (by omega)]
    apply rng_far
    · split <;> omega
    · omega
end Go.Proofs.YtmgnhekpgeahmaaDoor
