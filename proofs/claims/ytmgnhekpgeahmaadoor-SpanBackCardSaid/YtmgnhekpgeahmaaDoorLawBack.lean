/- weirlaw03.SpanBack returns true whatever comes in. -/
import Derived.Test.YtmgnhekpgeahmaaDoorTextW
import Derived.Test.YtmgnhekpgeahmaaDoorSteps
namespace Go.Proofs.YtmgnhekpgeahmaaDoor
open Go.Dur Go.Fl Go.Rel Go.RowKit
open Go.Lib (decDigits)

theorem text_out (t : Int) (h : t < 0 ∨ 315360000000000 < t) (w : World) : Calls Tryd.prog 6 #[.int .i64 t] w (Same (.tuple #[.string ⟨#[]⟩, .int .i64 2]) w) := by
  by_cases h0 : t < 0
  · have d0 : decide (t < 0) = true := decide_eq_true h0
    go_enter Tryd.func6, Tryd.ntmps6
    go_wp2_with fail
    go_ret2
    exact ⟨rfl, rfl⟩
  · have d0 : decide (t < 0) = false := decide_eq_false h0
    have d1 : decide (315360000000000 < t) = true := decide_eq_true (by omega)
    go_enter Tryd.func6, Tryd.ntmps6
    go_wp2_with fail
    go_ret2
    exact ⟨rfl, rfl⟩
theorem text_zero (w : World) : Calls Tryd.prog 6 #[.int .i64 0] w (Same (.tuple #[.string ⟨#[48, 115]⟩, .int .i64 0]) w) := by
  go_enter Tryd.func6, Tryd.ntmps6
  go_wp2_with fail
  go_ret2
  exact ⟨rfl, rfl⟩

theorem back_meas (m : Nat) (h1 : m ≤ 315360000000000) : meas ⟨(tx 7 m).toArray⟩ 0 0 0 = ((tx 7 m).length, m) := by
  have hM : Dur.M = 315360000000000 := rfl
  have := meas_txt 7 [] m 0 0 [] (by omega) (by omega) (by omega) (by omega) (by unfold Tail; decide) rfl (by omega)
  rw [List.append_nil, List.nil_append, ← tx_all, List.length_nil, Nat.zero_add, Nat.zero_add] at this
  exact this
theorem back_meas2 (m : Nat) (h1 : m ≤ 315360000000000) : (meas ((⟨(tx 7 m).toArray⟩ : ByteArray) ++ ⟨#[45]⟩) 0 0 0).1 = (tx 7 m).length := by
  have hM : Dur.M = 315360000000000 := rfl
  have := meas_txt 7 [] m 0 0 [45] (by omega) (by omega) (by omega) (by omega) (by unfold Tail; decide) rfl (by omega)
  rw [List.nil_append, ← tx_all, List.length_nil, Nat.zero_add, Nat.zero_add] at this
  have e : ((⟨(tx 7 m).toArray⟩ : ByteArray) ++ ⟨#[45]⟩) = ⟨(tx 7 m ++ [45]).toArray⟩ := by
    apply ByteArray.ext
    rw [ByteArray.data_append]
    apply Array.ext'
    simp
  rw [e, this]
theorem size_tx (m : Nat) : (⟨(tx 7 m).toArray⟩ : ByteArray).size = (tx 7 m).length := by show (tx 7 m).toArray.size = _; simp
theorem back_parse (m : Nat) (h0 : 0 < m) (h1 : m ≤ 315360000000000) : parseN ⟨(tx 7 m).toArray⟩ = (m, 0) := by
  have hM : Dur.M = 315360000000000 := rfl
  have hl := txt_len m h1
  have hne := txt_ne m h0
  rw [← tx_all] at hl hne
  have hpos : 0 < (tx 7 m).length := List.length_pos_iff.2 hne
  unfold parseN
  rw [back_meas m h1, size_tx, if_neg (by omega), if_neg (by dsimp only; omega), if_neg (by dsimp only; omega)]
theorem back_step (m : Nat) (h0 : 0 < m) (h1 : m ≤ 315360000000000) : stepN ⟨(tx 7 m).toArray⟩ = ((m : Int), 0) := by
  have hl := txt_len m h1
  have hne := txt_ne m h0
  rw [← tx_all] at hl hne
  have hpos : 0 < (tx 7 m).length := List.length_pos_iff.2 hne
  unfold stepN
  rw [back_meas m h1, size_tx, if_neg (by omega), if_neg (by dsimp only; omega)]
  unfold st2
  rw [if_neg (by dsimp only; omega), if_neg (by dsimp only; omega)]
theorem back_first : parseN ⟨#[49, 48, 48, 48, 48, 121]⟩ = (315360000000000, 0) := by decide +kernel
theorem back_zero : parseN ⟨#[48, 115]⟩ = (0, 0) ∧ stepN ⟨#[48, 115]⟩ = (0, 34) := by decide +kernel

def TrueRetB (w : World) (e : Ending) (w' : World) : Prop := e = .returned (.bool true) ∧ Below w.heap.size w w'

set_option maxHeartbeats 4000000 in
set_option maxRecDepth 100000 in
theorem law_back (t : Int) (w : World) (hT : Tab w.heap.size w) : Calls Tryd.prog 4 #[.int .i64 t] w (TrueRetB w) := by
  have HP1 : Hid (∀ w, Calls Tryd.prog 14 #[.string ⟨#[49, 48, 48, 48, 48, 121]⟩] w (SameD (.tuple #[.int .i64 315360000000000, .int .i64 0]) w)) := fun w => by
    have := parse_any ⟨#[49, 48, 48, 48, 48, 121]⟩ w (by decide)
    rw [back_first] at this
    exact this
  by_cases ho : t < 0 ∨ 315360000000000 < t
  · have HT1 : Hid (∀ w, Calls Tryd.prog 6 #[.int .i64 t] w (Same (.tuple #[.string ⟨#[]⟩, .int .i64 2]) w)) := fun w => text_out t ho w
    clear hT
    by_cases h0 : t < 0
    · have d0 : decide (t < 0) = true := decide_eq_true h0
      clear ho
      go_enter Tryd.func4, Tryd.ntmps4
      go_wp2_with (first | (go_at_call 14; ((with_reducible refine (HP1.out _).mono ?_); rintro e w' ⟨rfl, k1, rfl⟩)) | (go_at_call 6; ((with_reducible refine (HT1.out _).mono ?_); rintro e w' ⟨rfl, rfl⟩)))
      go_ret
      exact ⟨rfl, (Below.refl _ _).drewN' _⟩
    · have d0 : decide (t < 0) = false := decide_eq_false h0
      have d1 : decide (315360000000000 < t) = true := decide_eq_true (by omega)
      clear ho
      go_enter Tryd.func4, Tryd.ntmps4
      go_wp2_with (first | (go_at_call 14; ((with_reducible refine (HP1.out _).mono ?_); rintro e w' ⟨rfl, k1, rfl⟩)) | (go_at_call 6; ((with_reducible refine (HT1.out _).mono ?_); rintro e w' ⟨rfl, rfl⟩)))
      go_ret
      exact ⟨rfl, (Below.refl _ _).drewN' _⟩
  · by_cases hz : t = 0
    · subst hz
      have HT1 : Hid (∀ w, Calls Tryd.prog 6 #[.int .i64 0] w (Same (.tuple #[.string ⟨#[48, 115]⟩, .int .i64 0]) w)) := fun w => text_zero w
      have HP2 : Hid (∀ w, Calls Tryd.prog 14 #[.string ⟨#[48, 115]⟩] w (SameD (.tuple #[.int .i64 0, .int .i64 0]) w)) := fun w => by
        have := parse_any ⟨#[48, 115]⟩ w (by decide)
        rw [back_zero.1] at this
        exact this
      have HS2 : Hid (∀ w, Calls Tryd.prog 15 #[.string ⟨#[48, 115]⟩] w (MRet 0 34 w)) := fun w => by
        have := step_any ⟨#[48, 115]⟩ w (by decide)
        rw [back_zero.2] at this
        exact this
      clear hT ho
      go_enter Tryd.func4, Tryd.ntmps4
      go_wp2_with (first | (go_at_call 14; ((with_reducible refine (HP1.out _).mono ?_); rintro e w' ⟨rfl, k1, rfl⟩)) | (go_at_call 6; ((with_reducible refine (HT1.out _).mono ?_); rintro e w' ⟨rfl, rfl⟩)) | (go_at_call 14; ((with_reducible refine (HP2.out _).mono ?_); rintro e w' ⟨rfl, k2, rfl⟩)) | (go_at_call 15; ((with_reducible refine (HS2.out _).mono ?_); rintro e w' ⟨rfl, b2⟩)))
      go_ret
      exact ⟨rfl, ((Below.refl _ _).drewN' (k1 + k2)).trans b2⟩
    · obtain ⟨m, rfl⟩ : ∃ m : Nat, t = (m : Int) := ⟨t.toNat, by omega⟩
      have m0 : 0 < m := by omega
      have m1 : m ≤ 315360000000000 := by omega
      have d0 : decide ((m : Int) < 0) = false := decide_eq_false (by omega)
      have d1 : decide ((315360000000000 : Int) < (m : Int)) = false := decide_eq_false (by omega)
      have d2 : ((m : Int) == 0) = false := by simp; omega
      have HT1 : Hid (∀ k, Calls Tryd.prog 6 #[.int .i64 (m : Int)] (w.drewN k) (TextRet m (w.drewN k))) := fun k => text_any m m0 m1 (w.drewN k) (hT.on ((Below.refl _ _).drewN' k))
      have hl := txt_len m m1
      rw [← tx_all] at hl
      have HP2 : Hid (∀ w, Calls Tryd.prog 14 #[.string ⟨(tx 7 m).toArray⟩] w (SameD (.tuple #[.int .i64 (m : Int), .int .i64 0]) w)) := fun w => by
        have := parse_any ⟨(tx 7 m).toArray⟩ w (by rw [size_tx]; omega)
        rw [back_parse m m0 m1] at this
        exact this
      have HS2 : Hid (∀ w, Calls Tryd.prog 15 #[.string ⟨(tx 7 m).toArray⟩] w (MRet (m : Int) 0 w)) := fun w => by
        have := step_any ⟨(tx 7 m).toArray⟩ w (by rw [size_tx]; omega)
        rw [back_step m m0 m1] at this
        exact this
      have hsz : (⟨(tx 7 m).toArray⟩ : ByteArray).size ≤ 60 := by rw [size_tx]; exact hl
      have HX2 : Hid (∀ w, Calls Tryd.prog 16 #[.string ((⟨(tx 7 m).toArray⟩ : ByteArray) ++ ⟨#[45]⟩)] w (SameD (.int .i64 ((⟨(tx 7 m).toArray⟩ : ByteArray).size : Int)) w)) := fun w => by
        have := prefix_any ((⟨(tx 7 m).toArray⟩ : ByteArray) ++ ⟨#[45]⟩) w (by rw [ByteArray.size_append]; have : (⟨#[45]⟩ : ByteArray).size = 1 := rfl; omega)
        rw [back_meas2 m m1] at this
        rw [size_tx]
        exact this
      unfold TextRet at HT1
      clear hT ho hl hz
      generalize (⟨(tx 7 m).toArray⟩ : ByteArray) = S at *
      have ad1 := fun w' => run_string_add_sum (P := Tryd.prog) (w := w') S (⟨#[45]⟩ : ByteArray) (by have : (⟨#[45]⟩ : ByteArray).size = 1 := rfl; omega)
      go_enter Tryd.func4, Tryd.ntmps4
      go_wp2_with (first | (go_at_call 14; ((with_reducible refine (HP1.out _).mono ?_); rintro e w' ⟨rfl, k1, rfl⟩)) | (go_at_call 6; ((with_reducible refine (HT1.out _).mono ?_); rintro e w1 ⟨rfl, b1⟩)) | (go_at_call 14; ((with_reducible refine (HP2.out _).mono ?_); rintro e w' ⟨rfl, k2, rfl⟩)) | (go_at_call 15; ((with_reducible refine (HS2.out _).mono ?_); rintro e w2 ⟨rfl, b2⟩)) | (go_at_call 16; ((with_reducible refine (HX2.out _).mono ?_); rintro e w' ⟨rfl, k3, rfl⟩)))
      go_ret
      have bb := (((Below.refl w.heap.size w).drewN' k1).trans b1).drewN' k2
      exact ⟨rfl, (bb.trans (b2.mono bb.size)).drewN' k3⟩
end Go.Proofs.YtmgnhekpgeahmaaDoor
