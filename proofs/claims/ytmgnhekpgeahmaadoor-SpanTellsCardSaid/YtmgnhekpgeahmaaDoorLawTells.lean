/- weirlaw03.SpanTells returns true whatever comes in. -/
import Derived.Test.YtmgnhekpgeahmaaDoorLawBack
import Derived.Test.YtmgnhekpgeahmaaDoorRefTells
namespace Go.Proofs.YtmgnhekpgeahmaaDoor
open Go.Dur Go.Fl Go.Rel Go.RowKit
open Go.Lib (decDigits)

theorem tells_text : tx 7 31622400000 = [49, 121, 49, 100] := by simp [tx, uP, rst, szN, nmL, dec_small]
theorem tells_secs : secL 1500 = [49, 46, 53] := by
  have : frL 500 = [46, 53] := rfl
  simp [secL, sgL, dec_small, this]

/-- A text and its error, in a world that has grown. -/
def TRet (S : ByteArray) (e : Int) (w : World) (en : Ending) (w' : World) : Prop := en = .returned (.tuple #[.string S, .int .i64 e]) ∧ Below w.heap.size w w'

theorem text_both (t : Int) : ∃ (S : ByteArray) (e : Int), S.size ≤ 60 ∧ (∀ w, Tab w.heap.size w → Calls Tryd.prog 6 #[.int .i64 t] w (TRet S e w)) ∧ (∀ w, Calls Tryd.prog 9 #[.int .i64 t] w (TRet S e w)) := by
  by_cases ho : t < 0 ∨ 315360000000000 < t
  · refine ⟨⟨#[]⟩, 2, by decide, fun w _ => ?_, fun w => ?_⟩
    · exact (text_out t ho w).mono fun e w' ⟨h1, h2⟩ => ⟨h1, by rw [← h2]; exact Below.refl _ _⟩
    · exact (reftext_out t ho w).mono fun e w' ⟨h1, h2⟩ => ⟨h1, by rw [← h2]; exact Below.refl _ _⟩
  · by_cases hz : t = 0
    · subst hz
      refine ⟨⟨#[48, 115]⟩, 0, by decide, fun w _ => ?_, fun w => ?_⟩
      · exact (text_zero w).mono fun e w' ⟨h1, h2⟩ => ⟨h1, by rw [← h2]; exact Below.refl _ _⟩
      · exact (reftext_zero w).mono fun e w' ⟨h1, h2⟩ => ⟨h1, by rw [← h2]; exact Below.refl _ _⟩
    · obtain ⟨m, rfl⟩ : ∃ m : Nat, t = (m : Int) := ⟨t.toNat, by omega⟩
      refine ⟨⟨(tx 7 m).toArray⟩, 0, by rw [size_tx]; exact tx_len m (show m ≤ 315360000000000 by omega) 7 (by omega), fun w ht => text_any m (by omega) (by omega) w ht, fun w => reftext_any m (by omega) (by omega) w⟩

def TrueRetT (w : World) (e : Ending) (w' : World) : Prop := e = .returned (.bool true) ∧ Below w.heap.size w w'

theorem same_whole {t : Int} {y mo d h mi s ms y' mo' d' h' mi' s' ms' : Nat} (hd : y ≤ 9999 ∧ 1 ≤ mo ∧ mo ≤ 12 ∧ 1 ≤ d ∧ (d : Int) ≤ mdays y mo ∧ dayNum y mo d = t / 86400000)
    (hh : (h : Int) = t % 86400000 / 3600000 ∧ (mi : Int) = t % 86400000 / 60000 % 60 ∧ (s : Int) = t % 86400000 / 1000 % 60 ∧ (ms : Int) = t % 86400000 % 1000)
    (hd' : y' ≤ 9999 ∧ 1 ≤ mo' ∧ mo' ≤ 12 ∧ 1 ≤ d' ∧ (d' : Int) ≤ mdays y' mo' ∧ dayNum y' mo' d' = t / 86400000)
    (hh' : (h' : Int) = t % 86400000 / 3600000 ∧ (mi' : Int) = t % 86400000 / 60000 % 60 ∧ (s' : Int) = t % 86400000 / 1000 % 60 ∧ (ms' : Int) = t % 86400000 % 1000) : wholeL y' mo' d' h' mi' s' ms' [90] = wholeL y mo d h mi s ms [90] := by
  obtain ⟨a1, a2, a3, a4, a5, a6⟩ := hd
  obtain ⟨b1, b2, b3, b4, b5, b6⟩ := hd'
  obtain ⟨c1, c2, c3⟩ := same_date (y : Int) mo d y' mo' d' (by omega) (by omega) (by omega) a5 (by omega) (by omega) (by omega) b5 (by rw [a6, b6])
  obtain ⟨e1, e2, e3, e4⟩ := hh
  obtain ⟨f1, f2, f3, f4⟩ := hh'
  obtain rfl : y' = y := by omega
  obtain rfl : mo' = mo := by omega
  obtain rfl : d' = d := by omega
  obtain rfl : h' = h := by omega
  obtain rfl : mi' = mi := by omega
  obtain rfl : s' = s := by omega
  obtain rfl : ms' = ms := by omega
  rfl

theorem civil_nought (w : World) : Calls Tryd.prog 8 #[.int .i64 0] w (fun e w' => ∃ a0 a1 a2 a3 a4 a5 a6 a8 a9 : Int, e = .returned (.agg #[.int .i64 a0, .int .i64 a1, .int .i64 a2, .int .i64 a3, .int .i64 a4, .int .i64 a5, .int .i64 a6, .int .i64 4, .int .i64 a8, .int .i64 a9]) ∧ Below w.heap.size w w') := by
  refine (civil_any 0 (by omega) (by omega) w).mono ?_
  rintro e w' ⟨y, mo, d, rfl, -, -, -, -, -, -, -, b⟩
  exact ⟨_, _, _, _, _, _, _, _, _, rfl, b⟩

set_option maxHeartbeats 8000000 in
set_option maxRecDepth 100000 in
theorem law_tells (t : Int) (h0 : -9223372036854775808 ≤ t) (h1 : t ≤ 9223372036854775807) (w : World) (hT : Tab w.heap.size w) : Calls Tryd.prog 3 #[.int .i64 t] w (TrueRetT w) := by
  have HT : Hid (∀ w1, Below w.heap.size w w1 → Tab w1.heap.size w1) := fun w1 hb w' hb' => hT w' (hb.trans (hb'.mono hb.size))
  have HX1 : Hid (∀ w1, Below w.heap.size w w1 → Calls Tryd.prog 6 #[.int .i64 31622400000] w1 (TRet ⟨#[49, 121, 49, 100]⟩ 0 w1)) := fun w1 hb => by
    have := text_any 31622400000 (by omega) (by omega) w1 (HT.out w1 hb)
    unfold TextRet at this
    rw [tells_text] at this
    exact this
  have HS1 : Hid (∀ w1, Below w.heap.size w w1 → Calls Tryd.prog 7 #[.int .i64 1500] w1 (fun e w' => e = .returned (.string ⟨#[49, 46, 53]⟩) ∧ Below w1.heap.size w1 w')) := fun w1 hb => by
    have := secsW_any 1500 (by omega) (by omega) w1 (HT.out w1 hb)
    unfold TextW at this
    rw [tells_secs] at this
    exact this
  have HC1 : Hid (∀ w1, Calls Tryd.prog 8 #[.int .i64 0] w1 (fun e w' => ∃ a0 a1 a2 a3 a4 a5 a6 a8 a9 : Int, e = .returned (.agg #[.int .i64 a0, .int .i64 a1, .int .i64 a2, .int .i64 a3, .int .i64 a4, .int .i64 a5, .int .i64 a6, .int .i64 4, .int .i64 a8, .int .i64 a9]) ∧ Below w1.heap.size w1 w')) := fun w1 => civil_nought w1
  clear hT
  obtain ⟨S, er, hS60, htx, hrt⟩ := text_both t
  have HTX : Hid (∀ w1, Below w.heap.size w w1 → Calls Tryd.prog 6 #[.int .i64 t] w1 (TRet S er w1)) := fun w1 hb => htx w1 (HT.out w1 hb)
  have HRT : Hid (∀ w1, Calls Tryd.prog 9 #[.int .i64 t] w1 (TRet S er w1)) := hrt
  have HSE : Hid (∀ w1, Below w.heap.size w w1 → Calls Tryd.prog 7 #[.int .i64 t] w1 (fun e w' => e = .returned (.string ⟨(secL t).toArray⟩) ∧ Below w1.heap.size w1 w')) := fun w1 hb => secsW_any t h0 h1 w1 (HT.out w1 hb)
  have HRS : Hid (∀ w1, Calls Tryd.prog 12 #[.int .i64 t] w1 (fun e w' => e = .returned (.string ⟨(secL t).toArray⟩) ∧ Below w1.heap.size w1 w')) := fun w1 => refsecs_any t h0 h1 w1
  have HCI : Hid (∀ w1, Calls Tryd.prog 8 #[.int .i64 t] w1 (CivRet t w1)) := fun w1 => civil_any t h0 h1 w1
  have HRC : Hid (∀ w1, Calls Tryd.prog 13 #[.int .i64 t] w1 (CivRet t w1)) := fun w1 => refcivil_any t h0 h1 w1
  clear htx hrt
  generalize (⟨(secL t).toArray⟩ : ByteArray) = SS at *
  have HDD : Hid (∀ w1, Calls Tryd.prog 10 #[.int .i64 t] w1 (fun e w' => ∃ (D : ByteArray) (n : Int), e = .returned (.tuple #[.string D, .int .i64 n]) ∧ Hid (∀ w1, Calls Tryd.prog 11 #[.int .i64 t] w1 (TRet D n w1)) ∧ Below w1.heap.size w1 w')) := fun w1 => by
    by_cases ho : t < -62167219200000 ∨ 253402300799999 < t
    · refine (date_out t ho w1).mono ?_
      rintro e w' ⟨rfl, rfl⟩
      exact ⟨_, _, rfl, fun w2 => (refdate_out t ho w2).mono fun e w' ⟨h1, h2⟩ => ⟨h1, by rw [← h2]; exact Below.refl _ _⟩, Below.refl _ _⟩
    · refine (dateW_any t (by omega) (by omega) w1).mono ?_
      rintro e w' ⟨y, mo, d, h, mi, s, ms, rfl, hd, hh, b⟩
      refine ⟨_, _, rfl, fun w2 => (refdate_any t (by omega) (by omega) w2).mono ?_, b⟩
      rintro e w' ⟨y', mo', d', h', mi', s', ms', rfl, hd', hh', b'⟩
      rw [same_whole hd hh hd' hh']
      exact ⟨rfl, b'⟩
  have B0 := Lib.hid (Below.refl w.heap.size w)
  have hfl : ∀ (a0 a1 a2 a3 a4 a5 a6 a8 a9 : Int) (w : World), (Instr.field 27 (.agg #[.int .i64 a0, .int .i64 a1, .int .i64 a2, .int .i64 a3, .int .i64 a4, .int .i64 a5, .int .i64 a6, .int .i64 4, .int .i64 a8, .int .i64 a9]) 7).run Tryd.prog w = .ok (.int .i64 4) w := fun _ _ _ _ _ _ _ _ _ _ => by kernel_rfl
  unfold TRet at HX1 HTX HRT
  clear h0 h1
  go_enter Tryd.func3, Tryd.ntmps3
  go_wp2_with (first | (go_at_call 6; ((with_reducible refine (HX1.out _ B0.out).mono ?_); rintro e w1 ⟨rfl, b1⟩; have B1 := Lib.hid b1; clear b1)) | (go_at_call 7; ((with_reducible refine (HS1.out _ B1.out).mono ?_); rintro e w2 ⟨rfl, b2⟩; have B2 := Lib.hid (B1.out.trans (b2.mono B1.out.size)); clear b2)) | (go_at_call 8; ((with_reducible refine (HC1.out _).mono ?_); rintro e w3 ⟨a0, a1, a2, a3, a4, a5, a6, a8, a9, rfl, b3⟩; have B3 := Lib.hid (B2.out.trans (b3.mono B2.out.size)); clear b3)) | (go_at_call 6; ((with_reducible refine (HTX.out _ B3.out).mono ?_); rintro e w4 ⟨rfl, b4⟩; have B4 := Lib.hid (B3.out.trans (b4.mono B3.out.size)); clear b4)) | (go_at_call 9; ((with_reducible refine (HRT.out _).mono ?_); rintro e w5 ⟨rfl, b5⟩; have B5 := Lib.hid (B4.out.trans (b5.mono B4.out.size)); clear b5)) | (go_at_call 10; ((with_reducible refine (HDD.out _).mono ?_); rintro e w6 ⟨D, dn, rfl, HRD, b6⟩; have B6 := Lib.hid (B5.out.trans (b6.mono B5.out.size)); clear b6)) | (go_at_call 11; ((with_reducible refine (HRD.out _).mono ?_); rintro e w7 ⟨rfl, b7⟩; have B7 := Lib.hid (B6.out.trans (b7.mono B6.out.size)); clear b7)) | (go_at_call 7; ((with_reducible refine (HSE.out _ B7.out).mono ?_); rintro e w8 ⟨rfl, b8⟩; have B8 := Lib.hid (B7.out.trans (b8.mono B7.out.size)); clear b8)) | (go_at_call 12; ((with_reducible refine (HRS.out _).mono ?_); rintro e w9 ⟨rfl, b9⟩; have B9 := Lib.hid (B8.out.trans (b9.mono B8.out.size)); clear b9)))
  refine (HCI.out _).mono ?_
  rintro e w10 ⟨y, mo, d, rfl, m0, m1, e0, e1, hdn, -, -, b10⟩
  have B10 := Lib.hid (B9.out.trans (b10.mono B9.out.size))
  clear b10
  obtain ⟨h, hh⟩ : ∃ h : Int, t % 86400000 / 3600000 = h := ⟨_, rfl⟩
  obtain ⟨mi, hmi⟩ : ∃ h : Int, t % 86400000 / 60000 % 60 = h := ⟨_, rfl⟩
  obtain ⟨s, hs⟩ : ∃ h : Int, t % 86400000 / 1000 % 60 = h := ⟨_, rfl⟩
  obtain ⟨ms, hms⟩ : ∃ h : Int, t % 86400000 % 1000 = h := ⟨_, rfl⟩
  obtain ⟨q7, hq7⟩ : ∃ h : Int, (t / 86400000 + 4) % 7 = h := ⟨_, rfl⟩
  obtain ⟨q8, hq8⟩ : ∃ h : Int, t / 86400000 - dayNum y 1 1 + 1 = h := ⟨_, rfl⟩
  obtain ⟨q9, hq9⟩ : ∃ h : Int, mdays y mo = h := ⟨_, rfl⟩
  rw [hh, hmi, hs, hms, hq7, hq8, hq9]
  have HRC2 : Hid (∀ w1, Calls Tryd.prog 13 #[.int .i64 t] w1 (fun e w' => e = .returned (.agg #[.int .i64 y, .int .i64 mo, .int .i64 d, .int .i64 h, .int .i64 mi, .int .i64 s, .int .i64 ms, .int .i64 q7, .int .i64 q8, .int .i64 q9]) ∧ Below w1.heap.size w1 w')) := fun w1 => by
    refine (HRC.out w1).mono ?_
    rintro e w' ⟨y', mo', d', rfl, n0, n1, f0, f1, hdn', -, -, b'⟩
    obtain ⟨rfl, rfl, rfl⟩ := same_date y mo d y' mo' d' m0 m1 e0 e1 n0 n1 f0 f1 (by rw [hdn, hdn'])
    rw [hh, hmi, hs, hms, hq7, hq8, hq9]
    exact ⟨rfl, b'⟩
  clear hh hmi hs hms hq7 hq8 hq9 m0 m1 e0 e1 hdn
  go_wp2_with (first | (go_at_call 13; ((with_reducible refine (HRC2.out _).mono ?_); rintro e w11 ⟨rfl, b11⟩; have B11 := Lib.hid (B10.out.trans (b11.mono B10.out.size)); clear b11)))
  go_ret
  exact ⟨rfl, B11.out⟩
end Go.Proofs.YtmgnhekpgeahmaaDoor
