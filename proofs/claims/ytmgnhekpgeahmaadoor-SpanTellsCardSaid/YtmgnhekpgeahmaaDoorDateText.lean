/- The text of a date, with Z or an offset behind: what is read from it. -/
import Derived.Test.YtmgnhekpgeahmaaDoorStamps
import Derived.Test.YtmgnhekpgeahmaaDoorDigL
namespace Go.Proofs.YtmgnhekpgeahmaaDoor
open Go.Dur Go.Fl Go.RowKit

/-- A date up to its whole seconds. -/
def dateL (y mo d h mi s : Nat) : List UInt8 := dig4 y ++ 45 :: dig2 mo ++ 45 :: dig2 d ++ 84 :: dig2 h ++ 58 :: dig2 mi ++ 58 :: dig2 s

theorem bt_list (l : List UInt8) (i : Nat) : bt ⟨l.toArray⟩ i = (l.getD i 0).toNat := rfl
theorem isD_dgt (n p : Nat) : isD (dgt n p).toNat = true := by
  rw [dgt_nat]; unfold isD; simp; omega

theorem extract_tail (A Z : List UInt8) : (⟨(A ++ Z).toArray⟩ : ByteArray).extract A.length (⟨(A ++ Z).toArray⟩ : ByteArray).size = ⟨Z.toArray⟩ := by
  apply ByteArray.ext
  rw [ByteArray.data_extract]
  apply Array.ext'
  simp [ByteArray.size]

structure Small (y mo d h mi s ms : Nat) : Prop where
  y : y ≤ 9999
  mo : mo ≤ 99
  d : d ≤ 99
  h : h ≤ 99
  mi : mi ≤ 99
  s : s ≤ 99
  ms : ms ≤ 999

/-- The whole: a date, a fraction or none, what stands behind. -/
def wholeL (y mo d h mi s ms : Nat) (Z : List UInt8) : List UInt8 := dateL y mo d h mi s ++ thL ms ++ Z

theorem length_dateL (y mo d h mi s : Nat) : (dateL y mo d h mi s).length = 19 := rfl

/-- The bytes of the head. -/
theorem head_bytes (y mo d h mi s : Nat) (R : List UInt8) : ∀ i, i < 19 → bt ⟨(dateL y mo d h mi s ++ R).toArray⟩ i = bt ⟨(dateL y mo d h mi s).toArray⟩ i := by
  intro i hi
  rw [bt_list, bt_list]
  congr 1
  simp only [List.getD]
  rw [List.getElem?_append_left (by rw [length_dateL]; exact hi)]
theorem tail_bytes (y mo d h mi s : Nat) (R : List UInt8) (i : Nat) : bt ⟨(dateL y mo d h mi s ++ R).toArray⟩ (19 + i) = (R.getD i 0).toNat := by
  rw [bt_list]
  congr 1
  simp only [List.getD]
  rw [List.getElem?_append_right (by rw [length_dateL]; omega), length_dateL, Nat.add_sub_cancel_left]

theorem pair_dig {S : ByteArray} {i n : Nat} (hs : i + 2 ≤ S.size) (h0 : bt S i = (dgt n 10).toNat) (h1 : bt S (i + 1) = (dgt n 1).toNat) (hn : n ≤ 99) : pairN S i = (n : Int) := by
  unfold pairN
  rw [h0, h1, if_pos ⟨hs, isD_dgt _ _, isD_dgt _ _⟩, dgt_nat, dgt_nat]
  omega

theorem stN_date {y mo d h mi s ms : Nat} (hS : Small y mo d h mi s ms) {Z : List UInt8} {z : Nat} (hz0 : Z.getD 0 0 = UInt8.ofNat z) (hzz : z = 90 ∨ z = 43 ∨ z = 45) (hz1 : 1 ≤ Z.length) (hz2 : Z.length ≤ 6)
    (hz : (zoneR ⟨Z.toArray⟩).2 = true) (hm : (momR y mo d h mi s 0).2 = 0) :
    stN ⟨(wholeL y mo d h mi s ms Z).toArray⟩ = rng ((momR y mo d h mi s 0).1 + (ms : Int) - (zoneR ⟨Z.toArray⟩).1) := by
  obtain ⟨hy, hmo, hd, hh, hmi, hs, hms⟩ := hS
  have hzn : (Z.getD 0 0).toNat = z := by rw [hz0]; rcases hzz with rfl | rfl | rfl <;> rfl
  obtain ⟨R, hR⟩ : ∃ R, R = thL ms ++ Z := ⟨_, rfl⟩
  have hW : wholeL y mo d h mi s ms Z = dateL y mo d h mi s ++ R := by unfold wholeL; rw [hR, List.append_assoc]
  have hlen : (wholeL y mo d h mi s ms Z).length = 19 + R.length := by rw [hW, List.length_append, length_dateL]
  have hRl : 1 ≤ R.length ∧ R.length ≤ 10 := by
    rw [hR, List.length_append]
    unfold thL
    split <;> simp <;> omega
  obtain ⟨S, hSS⟩ : ∃ S : ByteArray, S = ⟨(wholeL y mo d h mi s ms Z).toArray⟩ := ⟨_, rfl⟩
  have hsz : S.size = 19 + R.length := by rw [hSS]; exact hlen
  have hb : ∀ i, i < 19 → bt S i = bt ⟨(dateL y mo d h mi s).toArray⟩ i := by rw [hSS, hW]; exact head_bytes y mo d h mi s R
  have ht : ∀ i, bt S (19 + i) = (R.getD i 0).toNat := by rw [hSS, hW]; exact tail_bytes y mo d h mi s R
  have b0 : bt S 0 = (dgt y 1000).toNat := hb 0 (by omega)
  have b1 : bt S 1 = (dgt y 100).toNat := hb 1 (by omega)
  have b2 : bt S 2 = (dgt y 10).toNat := hb 2 (by omega)
  have b3 : bt S 3 = (dgt y 1).toNat := hb 3 (by omega)
  have b4 : bt S 4 = 45 := hb 4 (by omega)
  have b5 : bt S 5 = (dgt mo 10).toNat := hb 5 (by omega)
  have b6 : bt S 6 = (dgt mo 1).toNat := hb 6 (by omega)
  have b7 : bt S 7 = 45 := hb 7 (by omega)
  have b8 : bt S 8 = (dgt d 10).toNat := hb 8 (by omega)
  have b9 : bt S 9 = (dgt d 1).toNat := hb 9 (by omega)
  have b10 : bt S 10 = 84 := hb 10 (by omega)
  have b11 : bt S 11 = (dgt h 10).toNat := hb 11 (by omega)
  have b12 : bt S 12 = (dgt h 1).toNat := hb 12 (by omega)
  have b13 : bt S 13 = 58 := hb 13 (by omega)
  have b14 : bt S 14 = (dgt mi 10).toNat := hb 14 (by omega)
  have b15 : bt S 15 = (dgt mi 1).toNat := hb 15 (by omega)
  have b16 : bt S 16 = 58 := hb 16 (by omega)
  have b17 : bt S 17 = (dgt s 10).toNat := hb 17 (by omega)
  have b18 : bt S 18 = (dgt s 1).toNat := hb 18 (by omega)
  -- not seconds
  have hrun : runE S 0 = 4 := by
    rw [runE_step (by omega) (by rw [b0]; exact isD_dgt _ _), runE_step (by omega) (by rw [b1]; exact isD_dgt _ _), runE_step (by omega) (by rw [b2]; exact isD_dgt _ _), runE_step (by omega) (by rw [b3]; exact isD_dgt _ _), runE_stop (by rw [b4]; simp [isD])]
  have hI : secI S = 0 := by
    unfold secI
    rw [b0, dgt_nat, if_neg (by omega)]
  have hsec : secOk S = false := by
    unfold secOk secJ
    rw [hI, hrun, b4]
    have : ¬ 4 = S.size := by omega
    simp [this]
  -- the fraction and what is behind it
  have hdec : milN (ptR S).1 3 = ms ∧ halfN (ptR S).1 = -1 ∧ (ptR S).2.2 = true ∧ S.extract (ptR S).2.1 S.size = ⟨Z.toArray⟩ := by
    unfold ptR pointV
    by_cases h0 : ms = 0
    · have hth : thL ms = [] := by unfold thL; rw [if_pos h0]
      rw [hth, List.nil_append] at hR
      have b19 : bt S 19 = z := by have := ht 0; rw [hR, hzn] at this; exact this
      rw [if_pos (.inr (by rw [b19]; omega))]
      refine ⟨?_, ?_, rfl, ?_⟩
      · rw [h0]; decide
      · decide
      · rw [hSS, hW, hR]
        exact extract_tail (dateL y mo d h mi s) Z
    · have hth : thL ms = [46, dgt ms 100, dgt ms 10, dgt ms 1] := by unfold thL; rw [if_neg h0]
      rw [hth] at hR
      have b19 : bt S 19 = 46 := by have := ht 0; rw [hR] at this; exact this
      have b20 : bt S 20 = (dgt ms 100).toNat := by have := ht 1; rw [hR] at this; exact this
      have b21 : bt S 21 = (dgt ms 10).toNat := by have := ht 2; rw [hR] at this; exact this
      have b22 : bt S 22 = (dgt ms 1).toNat := by have := ht 3; rw [hR] at this; exact this
      have b23 : bt S 23 = z := by
        have := ht 4
        rw [hR] at this
        rw [this, ← hzn]
        rfl
      have hR5 : R.length = 4 + Z.length := by rw [hR, List.length_append]; rfl
      have hrun2 : runE S 20 = 23 := by
        rw [runE_step (by omega) (by rw [b20]; exact isD_dgt _ _), runE_step (by omega) (by rw [b21]; exact isD_dgt _ _), runE_step (by omega) (by rw [b22]; exact isD_dgt _ _), runE_stop (by rw [b23]; rcases hzz with rfl | rfl | rfl <;> simp [isD])]
      rw [if_neg (by rw [b19]; omega)]
      rw [show 19 + 1 = 20 from rfl, hrun2]
      have e0 : bt (S.extract 20 23) 0 = bt S 20 := bt_extract S (by omega) (by omega)
      have e1 : bt (S.extract 20 23) 1 = bt S 21 := bt_extract S (by omega) (by omega)
      have e2 : bt (S.extract 20 23) 2 = bt S 22 := bt_extract S (by omega) (by omega)
      have hxs : (S.extract 20 23).size = 3 := by rw [ByteArray.size_extract]; omega
      refine ⟨?_, ?_, by simp, ?_⟩
      · simp only [milN, dv, e0, e1, e2, b20, b21, b22, dgt_nat]; omega
      · unfold halfN; rw [hxs, if_pos (.inl (by omega))]
      · rw [hSS, hW, hR]
        have := extract_tail (dateL y mo d h mi s ++ [46, dgt ms 100, dgt ms 10, dgt ms 1]) Z
        rw [List.append_assoc] at this
        exact this
  obtain ⟨d1, d2, d3, d4⟩ := hdec
  have q0 := pair_dig (S := S) (i := 0) (n := y / 100) (by omega) (by rw [b0, dgt_nat, dgt_nat]; omega) (by rw [b1, dgt_nat, dgt_nat]; omega) (by omega)
  have q2 := pair_dig (S := S) (i := 2) (n := y % 100) (by omega) (by rw [b2, dgt_nat, dgt_nat]; omega) (by rw [b3, dgt_nat, dgt_nat]; omega) (by omega)
  have p0 : pairN S 0 * 100 + pairN S 2 = (y : Int) := by rw [q0, q2]; omega
  have p00 : 0 ≤ pairN S 0 ∧ 0 ≤ pairN S 2 := by rw [q0, q2]; omega
  have p5 := pair_dig (S := S) (i := 5) (n := mo) (by omega) b5 b6 hmo
  have p8 := pair_dig (S := S) (i := 8) (n := d) (by omega) b8 b9 hd
  have p11 := pair_dig (S := S) (i := 11) (n := h) (by omega) b11 b12 hh
  have p14 := pair_dig (S := S) (i := 14) (n := mi) (by omega) b14 b15 hmi
  have p17 := pair_dig (S := S) (i := 17) (n := s) (by omega) b17 b18 hs
  have hciv : civR S = momR y mo d h mi s 0 := by unfold civR; rw [p0, p5, p8, p11, p14, p17]
  have hmk : marksN S 5 = true := by simp [marksN, markP, markC, b4, b7, b10, b13, b16]
  have hzo : zoR S = zoneR ⟨Z.toArray⟩ := by unfold zoR; rw [d4]
  have hok : datOk S = true := by
    unfold datOk
    rw [hmk, hciv, hm, d3, hzo, hz]
    simp; omega
  rw [← hSS]
  unfold stN
  rw [if_neg (by omega), hsec, if_neg (by simp), if_pos hok, hzo]
  unfold datT
  rw [hciv, d1, d2]
  rw [show upD (-1) = 0 from rfl]
  congr 1
  omega
end Go.Proofs.YtmgnhekpgeahmaaDoor
