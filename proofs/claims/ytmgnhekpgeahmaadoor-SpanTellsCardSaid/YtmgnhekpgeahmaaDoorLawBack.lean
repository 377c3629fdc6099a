/- weirlaw03.SpanBack returns true whatever comes in. weirlaw03.SpanRound returns true whatever comes in. -/
import Derived.Test.YtmgnhekpgeahmaaDoorTextW
import Derived.Test.YtmgnhekpgeahmaaDoorSteps
import Derived.Test.YtmgnhekpgeahmaaDoorOffsets
namespace Go.Proofs.YtmgnhekpgeahmaaDoor
open Go.Dur Go.Fl Go.Rel Go.RowKit
open Go.Lib (decDigits)

theorem text_out (t : Int) (h : t < 0 ∨ 315360000000000 < t) (w : World) : Calls Tryd.prog 6 #[.int .i64 t] w (Same (.tuple #[.string ⟨#[]⟩, .int .i64 2]) w) := by
  by_cases h0 : t < 0
  · have d0 : decide (t < 0) = true := decide_eq_true h0
    go_enter Tryd.func6, Tryd.ntmps6
    go_wp2_with fail
    go_ret2
    exact ⟨rfl, rfl⟩
  · have d0 : decide (t < 0) = false := decide_eq_false h0
    have d1 : decide (315360000000000 < t) = true := decide_eq_true (by omega)
    go_enter Tryd.func6, Tryd.ntmps6
    go_wp2_with fail
    go_ret2
    exact ⟨rfl, rfl⟩
theorem text_zero (w : World) : Calls Tryd.prog 6 #[.int .i64 0] w (Same (.tuple #[.string ⟨#[48, 115]⟩, .int .i64 0]) w) := by
  go_enter Tryd.func6, Tryd.ntmps6
  go_wp2_with fail
  go_ret2
  exact ⟨rfl, rfl⟩

theorem back_meas (m : Nat) (h1 : m ≤ 315360000000000) : meas ⟨(tx 7 m).toArray⟩ 0 0 0 = ((tx 7 m).length, m) := by
  have hM : Dur.M = 315360000000000 := rfl
  have := meas_txt 7 [] m 0 0 [] (by omega) (by omega) (by omega) (by omega) (by unfold Tail; decide) rfl (by omega)
  rw [List.append_nil, List.nil_append, ← tx_all, List.length_nil, Nat.zero_add, Nat.zero_add] at this
  exact this
theorem back_meas2 (m : Nat) (h1 : m ≤ 315360000000000) : (meas ((⟨(tx 7 m).toArray⟩ : ByteArray) ++ ⟨#[45]⟩) 0 0 0).1 = (tx 7 m).length := by
  have hM : Dur.M = 315360000000000 := rfl
  have := meas_txt 7 [] m 0 0 [45] (by omega) (by omega) (by omega) (by omega) (by unfold Tail; decide) rfl (by omega)
  rw [List.nil_append, ← tx_all, List.length_nil, Nat.zero_add, Nat.zero_add] at this
  have e : ((⟨(tx 7 m).toArray⟩ : ByteArray) ++ ⟨#[45]⟩) = ⟨(tx 7 m ++ [45]).toArray⟩ := by
    apply ByteArray.ext
    rw [ByteArray.data_append]
    apply Array.ext'
    simp
  rw [e, this]
theorem size_tx (m : Nat) : (⟨(tx 7 m).toArray⟩ : ByteArray).size = (tx 7 m).length := by show (tx 7 m).toArray.size = _; simp
theorem back_parse (m : Nat) (h0 : 0 < m) (h1 : m ≤ 315360000000000) : parseN ⟨(tx 7 m).toArray⟩ = (m, 0) := by
  have hM : Dur.M = 315360000000000 := rfl
  have hl := txt_len m h1
  have hne := txt_ne m h0
  rw [← tx_all] at hl hne
  have hpos : 0 < (tx 7 m).length := List.length_pos_iff.2 hne
  unfold parseN
  rw [back_meas m h1, size_tx, if_neg (by omega), if_neg (by dsimp only; omega), if_neg (by dsimp only; omega)]
theorem back_step (m : Nat) (h0 : 0 < m) (h1 : m ≤ 315360000000000) : stepN ⟨(tx 7 m).toArray⟩ = ((m : Int), 0) := by
  have hl := txt_len m h1
  have hne := txt_ne m h0
  rw [← tx_all] at hl hne
  have hpos : 0 < (tx 7 m).length := List.length_pos_iff.2 hne
  unfold stepN
  rw [back_meas m h1, size_tx, if_neg (by omega), if_neg (by dsimp only; omega)]
  unfold st2
  rw [if_neg (by dsimp only; omega), if_neg (by dsimp only; omega)]
theorem back_first : parseN ⟨#[49, 48, 48, 48, 48, 121]⟩ = (315360000000000, 0) := by decide +kernel
theorem back_zero : parseN ⟨#[48, 115]⟩ = (0, 0) ∧ stepN ⟨#[48, 115]⟩ = (0, 34) := by decide +kernel

def TrueRetB (w : World) (e : Ending) (w' : World) : Prop := e = .returned (.bool true) ∧ Below w.heap.size w w'

set_option maxHeartbeats 4000000 in
set_option maxRecDepth 100000 in
theorem law_back (t : Int) (w : World) (hT : Tab w.heap.size w) : Calls Tryd.prog 4 #[.int .i64 t] w (TrueRetB w) := by
  have HP1 : Hid (∀ w, Calls Tryd.prog 14 #[.string ⟨#[49, 48, 48, 48, 48, 121]⟩] w (SameD (.tuple #[.int .i64 315360000000000, .int .i64 0]) w)) := fun w => by
    have := parse_any ⟨#[49, 48, 48, 48, 48, 121]⟩ w (by decide)
    rw [back_first] at this
    exact this
  by_cases ho : t < 0 ∨ 315360000000000 < t
  · have HT1 : Hid (∀ w, Calls Tryd.prog 6 #[.int .i64 t] w (Same (.tuple #[.string ⟨#[]⟩, .int .i64 2]) w)) := fun w => text_out t ho w
    clear hT
    by_cases h0 : t < 0
    · have d0 : decide (t < 0) = true := decide_eq_true h0
      clear ho
      go_enter Tryd.func4, Tryd.ntmps4
      go_wp2_with (first | (go_at_call 14; ((with_reducible refine (HP1.out _).mono ?_); rintro e w' ⟨rfl, k1, rfl⟩)) | (go_at_call 6; ((with_reducible refine (HT1.out _).mono ?_); rintro e w' ⟨rfl, rfl⟩)))
      go_ret
      exact ⟨rfl, (Below.refl _ _).drewN' _⟩
    · have d0 : decide (t < 0) = false := decide_eq_false h0
      have d1 : decide (315360000000000 < t) = true := decide_eq_true (by omega)
      clear ho
      go_enter Tryd.func4, Tryd.ntmps4
      go_wp2_with (first | (go_at_call 14; ((with_reducible refine (HP1.out _).mono ?_); rintro e w' ⟨rfl, k1, rfl⟩)) | (go_at_call 6; ((with_reducible refine (HT1.out _).mono ?_); rintro e w' ⟨rfl, rfl⟩)))
      go_ret
      exact ⟨rfl, (Below.refl _ _).drewN' _⟩
  · by_cases hz : t = 0
    · subst hz
      have HT1 : Hid (∀ w, Calls Tryd.prog 6 #[.int .i64 0] w (Same (.tuple #[.string ⟨#[48, 115]⟩, .int .i64 0]) w)) := fun w => text_zero w
      have HP2 : Hid (∀ w, Calls Tryd.prog 14 #[.string ⟨#[48, 115]⟩] w (SameD (.tuple #[.int .i64 0, .int .i64 0]) w)) := fun w => by
        have := parse_any ⟨#[48, 115]⟩ w (by decide)
        rw [back_zero.1] at this
        exact this
      have HS2 : Hid (∀ w, Calls Tryd.prog 15 #[.string ⟨#[48, 115]⟩] w (MRet 0 34 w)) := fun w => by
        have := step_any ⟨#[48, 115]⟩ w (by decide)
        rw [back_zero.2] at this
        exact this
      clear hT ho
      go_enter Tryd.func4, Tryd.ntmps4
      go_wp2_with (first | (go_at_call 14; ((with_reducible refine (HP1.out _).mono ?_); rintro e w' ⟨rfl, k1, rfl⟩)) | (go_at_call 6; ((with_reducible refine (HT1.out _).mono ?_); rintro e w' ⟨rfl, rfl⟩)) | (go_at_call 14; ((with_reducible refine (HP2.out _).mono ?_); rintro e w' ⟨rfl, k2, rfl⟩)) | (go_at_call 15; ((with_reducible refine (HS2.out _).mono ?_); rintro e w' ⟨rfl, b2⟩)))
      go_ret
      exact ⟨rfl, ((Below.refl _ _).drewN' (k1 + k2)).trans b2⟩
    · obtain ⟨m, rfl⟩ : ∃ m : Nat, t = (m : Int) := ⟨t.toNat, by omega⟩
      have m0 : 0 < m := by omega
      have m1 : m ≤ 315360000000000 := by omega
      have d0 : decide ((m : Int) < 0) = false := decide_eq_false (by omega)
      have d1 : decide ((315360000000000 : Int) < (m : Int)) = false := decide_eq_false (by omega)
      have d2 : ((m : Int) == 0) = false := by simp; omega
      have HT1 : Hid (∀ k, Calls Tryd.prog 6 #[.int .i64 (m : Int)] (w.drewN k) (TextRet m (w.drewN k))) := fun k => text_any m m0 m1 (w.drewN k) (hT.on ((Below.refl _ _).drewN' k))
      have hl := txt_len m m1
      rw [← tx_all] at hl
      have HP2 : Hid (∀ w, Calls Tryd.prog 14 #[.string ⟨(tx 7 m).toArray⟩] w (SameD (.tuple #[.int .i64 (m : Int), .int .i64 0]) w)) := fun w => by
        have := parse_any ⟨(tx 7 m).toArray⟩ w (by rw [size_tx]; omega)
        rw [back_parse m m0 m1] at this
        exact this
      have HS2 : Hid (∀ w, Calls Tryd.prog 15 #[.string ⟨(tx 7 m).toArray⟩] w (MRet (m : Int) 0 w)) := fun w => by
        have := step_any ⟨(tx 7 m).toArray⟩ w (by rw [size_tx]; omega)
        rw [back_step m m0 m1] at this
        exact this
      have hsz : (⟨(tx 7 m).toArray⟩ : ByteArray).size ≤ 60 := by rw [size_tx]; exact hl
      have HX2 : Hid (∀ w, Calls Tryd.prog 16 #[.string ((⟨(tx 7 m).toArray⟩ : ByteArray) ++ ⟨#[45]⟩)] w (SameD (.int .i64 ((⟨(tx 7 m).toArray⟩ : ByteArray).size : Int)) w)) := fun w => by
        have := prefix_any ((⟨(tx 7 m).toArray⟩ : ByteArray) ++ ⟨#[45]⟩) w (by rw [ByteArray.size_append]; have : (⟨#[45]⟩ : ByteArray).size = 1 := rfl; omega)
        rw [back_meas2 m m1] at this
        rw [size_tx]
        exact this
      unfold TextRet at HT1
      clear hT ho hl hz
      generalize (⟨(tx 7 m).toArray⟩ : ByteArray) = S at *
      have ad1 := fun w' => run_string_add_sum (P := Tryd.prog) (w := w') S (⟨#[45]⟩ : ByteArray) (by have : (⟨#[45]⟩ : ByteArray).size = 1 := rfl; omega)
      go_enter Tryd.func4, Tryd.ntmps4
      go_wp2_with (first | (go_at_call 14; ((with_reducible refine (HP1.out _).mono ?_); rintro e w' ⟨rfl, k1, rfl⟩)) | (go_at_call 6; ((with_reducible refine (HT1.out _).mono ?_); rintro e w1 ⟨rfl, b1⟩)) | (go_at_call 14; ((with_reducible refine (HP2.out _).mono ?_); rintro e w' ⟨rfl, k2, rfl⟩)) | (go_at_call 15; ((with_reducible refine (HS2.out _).mono ?_); rintro e w2 ⟨rfl, b2⟩)) | (go_at_call 16; ((with_reducible refine (HX2.out _).mono ?_); rintro e w' ⟨rfl, k3, rfl⟩)))
      go_ret
      have bb := (((Below.refl w.heap.size w).drewN' k1).trans b1).drewN' k2
      exact ⟨rfl, (bb.trans (b2.mono bb.size)).drewN' k3⟩
end Go.Proofs.YtmgnhekpgeahmaaDoor

namespace Go.Proofs.YtmgnhekpgeahmaaDoor
open Go.Dur Go.Fl Go.Rel Go.RowKit
open Go.Lib (decDigits)

theorem date_out (t : Int) (h : t < -62167219200000 ∨ 253402300799999 < t) (w : World) : Calls Tryd.prog 10 #[.int .i64 t] w (Same (.tuple #[.string ⟨#[]⟩, .int .i64 33]) w) := by
  by_cases h0 : t < -62167219200000
  · have d0 : decide (t < -62167219200000) = true := decide_eq_true h0
    go_enter Tryd.func10, Tryd.ntmps10
    go_wp2_with fail
    go_ret2
    exact ⟨rfl, rfl⟩
  · have d0 : decide (t < -62167219200000) = false := decide_eq_false h0
    have d1 : decide (253402300799999 < t) = true := decide_eq_true (by omega)
    go_enter Tryd.func10, Tryd.ntmps10
    go_wp2_with fail
    go_ret2
    exact ⟨rfl, rfl⟩

theorem ba_nonempty {s : ByteArray} (h : s.size ≠ 0) : s.toList.isEmpty = false := by
  rw [ByteArray.toList_eq]
  obtain ⟨⟨l⟩⟩ := s
  cases l with
  | nil => exact absurd rfl h
  | cons a r => rfl

def TrueRetR (w : World) (e : Ending) (w' : World) : Prop := e = .returned (.bool true) ∧ Below w.heap.size w w'

set_option maxHeartbeats 4000000 in
set_option maxRecDepth 100000 in
theorem law_round (t : Int) (h0 : -9223372036854775808 ≤ t) (h1 : t ≤ 9223372036854775807) (w : World) (hT : Tab w.heap.size w) : Calls Tryd.prog 5 #[.int .i64 t] w (TrueRetR w) := by
  have hsl := secL_len t h0 h1
  have hsz : (⟨(secL t).toArray⟩ : ByteArray).size = (secL t).length := by show (secL t).toArray.size = _; simp
  have hne : (⟨(secL t).toArray⟩ : ByteArray).size ≠ 0 := by
    rw [hsz]; intro h; exact secL_ne t (List.length_eq_zero_iff.1 h)
  have hnl := ba_nonempty hne
  have hnl2 : (!(⟨(secL t).toArray⟩ : ByteArray).toList.isEmpty) = true := by rw [hnl]; rfl
  have HS : Hid (∀ w1, Below w.heap.size w w1 → Calls Tryd.prog 7 #[.int .i64 t] w1 (TextW (secL t) w1)) := fun w1 hb => secsW_any t h0 h1 w1 (fun w' hb' => hT w' (hb.trans (hb'.mono hb.size)))
  have HST : Hid (∀ w1, Calls Tryd.prog 17 #[.string ⟨(secL t).toArray⟩] w1 (MRet (rng t).1 (rng t).2 w1)) := fun w1 => by
    have := stamp_any ⟨(secL t).toArray⟩ w1 (by rw [hsz]; omega)
    rw [stN_sec t h0 h1] at this
    exact this
  have HC : Hid (∀ w1, Calls Tryd.prog 8 #[.int .i64 t] w1 (CivRet t w1)) := fun w1 => civil_any t h0 h1 w1
  unfold TextW at HS
  clear hT hsl hsz hne
  generalize (⟨(secL t).toArray⟩ : ByteArray) = S at *
  by_cases hout : t < -62167219200000 ∨ 253402300799999 < t
  · have hr : rng t = (0, 33) := by unfold rng; rw [if_pos hout]
    rw [hr] at HST
    have HDA : Hid (∀ w1, Calls Tryd.prog 10 #[.int .i64 t] w1 (Same (.tuple #[.string ⟨#[]⟩, .int .i64 33]) w1)) := fun w1 => date_out t hout w1
    have hcase : (decide (t < -62167219200000) = true) ∨ (decide (t < -62167219200000) = false ∧ decide (253402300799999 < t) = true) := by
      by_cases c : t < -62167219200000
      · exact .inl (decide_eq_true c)
      · exact .inr ⟨decide_eq_false c, decide_eq_true (by omega)⟩
    clear hr hout
    have HCA := Lib.hid hcase
    clear hcase
    go_enter Tryd.func5, Tryd.ntmps5
    go_wp2_with fail
    refine (HC.out _).mono ?_
    rintro e w1 ⟨y, mo, d, rfl, m0, m1, e0, e1, hdn, -, -, b1⟩
    obtain ⟨h, hh⟩ : ∃ h : Int, t % 86400000 / 3600000 = h := ⟨_, rfl⟩
    obtain ⟨mi, hmi⟩ : ∃ h : Int, t % 86400000 / 60000 % 60 = h := ⟨_, rfl⟩
    obtain ⟨s, hs⟩ : ∃ h : Int, t % 86400000 / 1000 % 60 = h := ⟨_, rfl⟩
    obtain ⟨ms, hms⟩ : ∃ h : Int, t % 86400000 % 1000 = h := ⟨_, rfl⟩
    rw [hh, hmi, hs, hms]
    have HD : Hid (1 ≤ mo ∧ mo ≤ 12 ∧ 1 ≤ d ∧ d ≤ mdays y mo ∧ dayNum y mo d = t / 86400000 ∧ t % 86400000 / 3600000 = h ∧ t % 86400000 / 60000 % 60 = mi ∧ t % 86400000 / 1000 % 60 = s ∧ t % 86400000 % 1000 = ms) := ⟨m0, m1, e0, e1, hdn, hh, hmi, hs, hms⟩
    clear m0 m1 e0 e1 hdn hh hmi hs hms
    obtain ⟨q9, hq9⟩ : ∃ q, q = mdays y mo := ⟨_, rfl⟩
    rw [← hq9]
    clear hq9
    generalize t / 86400000 - dayNum y 1 1 + 1 = q8
    generalize (t / 86400000 + 4) % 7 = q7
    have hHS := HS.out
    have HS1 := Lib.hid (hHS w1 b1)
    clear hHS
    rcases HCA.out with d0 | ⟨d0, d1⟩
    all_goals
      go_wp2_with (first | (go_at_call 7; ((with_reducible refine HS1.out.mono ?_); rintro e w2 ⟨rfl, b2⟩)) | (refine Bk.is_store 27 rfl ?_; refine Bk.wpList_store_box (w0 := w2) (N := 0) rfl 27 _ _ rfl #[.int .i64 y, .int .i64 mo, .int .i64 d, .int .i64 h, .int .i64 mi, .int .i64 s, .int .i64 ms, .int .i64 q7, .int .i64 q8, .int .i64 q9] #[.int .i64 0, .int .i64 0, .int .i64 0, .int .i64 0, .int .i64 0, .int .i64 0, .int .i64 0, .int .i64 0, .int .i64 0, .int .i64 0] 27 rfl rfl (by kernel_rfl) rfl (by kernel_rfl) ?_; intro W hIs0 bW0; have HIS := Lib.hid hIs0; have BW := Lib.hid ((b1.trans (b2.mono b1.size)).trans (bW0.mono (b1.trans (b2.mono b1.size)).size)); clear hIs0 bW0) | (go_at_call 10; ((with_reducible refine (HDA.out _).mono ?_); rintro e w' ⟨rfl, rfl⟩)) | (go_at_call 17; ((with_reducible refine (HST.out _).mono ?_); rintro e w3 ⟨rfl, b3⟩)))
      go_ret
      exact ⟨rfl, BW.out.trans (b3.mono BW.out.size)⟩
  · have hr : rng t = (t, 0) := by unfold rng; rw [if_neg hout]
    rw [hr] at HST
    have t0 : -62167219200000 ≤ t := by omega
    have t1 : t ≤ 253402300799999 := by omega
    have d0 : decide (t < -62167219200000) = false := decide_eq_false (by omega)
    have d1 : decide (253402300799999 < t) = false := decide_eq_false (by omega)
    have HDA : Hid (∀ w1, Calls Tryd.prog 10 #[.int .i64 t] w1 (DateWRet t w1)) := fun w1 => dateW_any t t0 t1 w1
    clear hr hout
    go_enter Tryd.func5, Tryd.ntmps5
    go_wp2_with fail
    refine (HC.out _).mono ?_
    rintro e w1 ⟨y, mo, d, rfl, m0, m1, e0, e1, hdn, -, -, b1⟩
    obtain ⟨h, hh⟩ : ∃ h : Int, t % 86400000 / 3600000 = h := ⟨_, rfl⟩
    obtain ⟨mi, hmi⟩ : ∃ h : Int, t % 86400000 / 60000 % 60 = h := ⟨_, rfl⟩
    obtain ⟨s, hs⟩ : ∃ h : Int, t % 86400000 / 1000 % 60 = h := ⟨_, rfl⟩
    obtain ⟨ms, hms⟩ : ∃ h : Int, t % 86400000 % 1000 = h := ⟨_, rfl⟩
    rw [hh, hmi, hs, hms]
    have HD : Hid (1 ≤ mo ∧ mo ≤ 12 ∧ 1 ≤ d ∧ d ≤ mdays y mo ∧ dayNum y mo d = t / 86400000 ∧ t % 86400000 / 3600000 = h ∧ t % 86400000 / 60000 % 60 = mi ∧ t % 86400000 / 1000 % 60 = s ∧ t % 86400000 % 1000 = ms) := ⟨m0, m1, e0, e1, hdn, hh, hmi, hs, hms⟩
    clear m0 m1 e0 e1 hdn hh hmi hs hms
    obtain ⟨q9, hq9⟩ : ∃ q, q = mdays y mo := ⟨_, rfl⟩
    rw [← hq9]
    clear hq9
    generalize t / 86400000 - dayNum y 1 1 + 1 = q8
    generalize (t / 86400000 + 4) % 7 = q7
    have hHS := HS.out
    have HS1 := Lib.hid (hHS w1 b1)
    clear hHS
    have HMO : Hid (∀ w1, Calls Tryd.prog 18 #[.agg #[.int .i64 y, .int .i64 mo, .int .i64 d, .int .i64 h, .int .i64 mi, .int .i64 s, .int .i64 ms, .int .i64 (-7), .int .i64 1000, .int .i64 0]] w1 (MRet t 0 w1)) := fun w1 => by
      obtain ⟨m0, m1, e0, e1, hdn, hh, hmi, hs, hms⟩ := HD.out
      obtain ⟨y0, y1⟩ := year_range m0 m1 e0 e1 hdn t0 t1
      have := momP_any y mo d h mi s ms (-7) 1000 0 w1
      have hm : momR y mo d h mi s ms = (t, 0) := by
        unfold momR
        rw [if_neg (by omega), if_pos (by omega)]
        unfold momVal
        rw [hdn]
        congr 1
        omega
      rw [hm] at this
      exact this
    go_wp2_with (first | (go_at_call 7; ((with_reducible refine HS1.out.mono ?_); rintro e w2 ⟨rfl, b2⟩)) | (refine Bk.is_store 27 rfl ?_; refine Bk.wpList_store_box (w0 := w2) (N := 0) rfl 27 _ _ rfl #[.int .i64 y, .int .i64 mo, .int .i64 d, .int .i64 h, .int .i64 mi, .int .i64 s, .int .i64 ms, .int .i64 q7, .int .i64 q8, .int .i64 q9] #[.int .i64 0, .int .i64 0, .int .i64 0, .int .i64 0, .int .i64 0, .int .i64 0, .int .i64 0, .int .i64 0, .int .i64 0, .int .i64 0] 27 rfl rfl (by kernel_rfl) rfl (by kernel_rfl) ?_; intro W hIs0 bW0; have HIS := Lib.hid hIs0; have BW := Lib.hid ((b1.trans (b2.mono b1.size)).trans (bW0.mono (b1.trans (b2.mono b1.size)).size)); clear hIs0 bW0))
    refine (HDA.out _).mono ?_
    rintro e w3 ⟨y', mo', d', h', mi', s', ms', rfl, hd, hh, b3⟩
    have HSD : Hid (∀ w1, Calls Tryd.prog 17 #[.string ⟨(wholeL y' mo' d' h' mi' s' ms' [90]).toArray⟩] w1 (MRet t 0 w1)) := fun w1 => by
      have hz : zoneR ⟨([90] : List UInt8).toArray⟩ = (0, true) := rfl
      have h2 := stamp_offset hd hh (Z := [90]) (z := 90) rfl (by omega) (by decide) (by decide) hz
      have h3 := stamp_any ⟨(wholeL y' mo' d' h' mi' s' ms' [90]).toArray⟩ w1 (by
        show (wholeL y' mo' d' h' mi' s' ms' [90]).toArray.size ≤ _
        unfold wholeL thL
        simp [length_dateL]
        split <;> simp)
      rw [h2, Int.sub_zero, show rng t = (t, 0) by unfold rng; rw [if_neg (by omega)]] at h3
      exact h3
    clear hd hh
    generalize (⟨(wholeL y' mo' d' h' mi' s' ms' [90]).toArray⟩ : ByteArray) = D at *
    clear HD
    go_wp2_with (first | (go_at_call 17; ((with_reducible refine (HST.out _).mono ?_); rintro e w4 ⟨rfl, b4⟩)) | (go_at_call 17; ((with_reducible refine (HSD.out _).mono ?_); rintro e w5 ⟨rfl, b5⟩; have BB := b3.trans ((b4.trans (b5.mono b4.size)).mono b3.size); have HI5 : Bk.Is w5 w2.heap.size #[.int .i64 y, .int .i64 mo, .int .i64 d, .int .i64 h, .int .i64 mi, .int .i64 s, .int .i64 ms, .int .i64 q7, .int .i64 q8, .int .i64 q9] 27 := HIS.out.below BB HIS.out.lt; have BW5 := Lib.hid (BW.out.trans (BB.mono BW.out.size)); have c7 : w5.cell? ⟨w2.heap.size, 7, none⟩ = some (.int .i64 q7) := HI5.cell 7; have c8 : w5.cell? ⟨w2.heap.size, 8, none⟩ = some (.int .i64 q8) := HI5.cell 8; have c9 : w5.cell? ⟨w2.heap.size, 9, none⟩ = some (.int .i64 q9) := HI5.cell 9; have cf : ∀ j, w5.frozen? ⟨w2.heap.size, j, none⟩ = false := HI5.free; have HI8 : Bk.Is (((w5.setCell ⟨w2.heap.size, 7, none⟩ (.int .i64 (-7))).setCell ⟨w2.heap.size, 8, none⟩ (.int .i64 1000)).setCell ⟨w2.heap.size, 9, none⟩ (.int .i64 0)) w2.heap.size #[.int .i64 y, .int .i64 mo, .int .i64 d, .int .i64 h, .int .i64 mi, .int .i64 s, .int .i64 ms, .int .i64 (-7), .int .i64 1000, .int .i64 0] 27 := ((HI5.set 7 _).set 8 _).set 9 _; have HI8h := Lib.hid HI8; clear HI8 HI5 b3 b4 b5 BB)) | (refine wpList_load_row rfl 27 (.tmp 3) rfl w2.heap.size rfl 27 #[.int .i64 y, .int .i64 mo, .int .i64 d, .int .i64 h, .int .i64 mi, .int .i64 s, .int .i64 ms, .int .i64 (-7), .int .i64 1000, .int .i64 0] (0, 0) _ HI8h.out Tryd.underlying27 rfl (by kernel_rfl) ?_) | (go_at_call 18; ((with_reducible refine (HMO.out _).mono ?_); rintro e w6 ⟨rfl, b6⟩)))
    go_ret
    have hB : w.heap.size ≤ w2.heap.size := (b1.trans (b2.mono b1.size)).size
    exact ⟨rfl, (((BW5.out.setCell (p := ⟨w2.heap.size, 7, none⟩) hB _).setCell (p := ⟨w2.heap.size, 8, none⟩) hB _).setCell (p := ⟨w2.heap.size, 9, none⟩) hB _).trans (b6.mono (by simp; exact BW5.out.size))⟩
end Go.Proofs.YtmgnhekpgeahmaaDoor
