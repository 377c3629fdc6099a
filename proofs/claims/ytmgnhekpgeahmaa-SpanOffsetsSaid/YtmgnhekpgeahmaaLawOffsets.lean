/- weirlaw03.SpanOffsets returns true whatever comes in. -/
import Derived.Test.YtmgnhekpgeahmaaOffsets
namespace Go.Proofs.Ytmgnhekpgeahmaa
open Go.Dur Go.Fl Go.Rel Go.RowKit

theorem const_stamp : stN ⟨#[49, 57, 55, 48, 45, 48, 49, 45, 48, 49, 84, 48, 48, 58, 48, 48, 58, 48, 48, 45, 48, 48, 58, 51, 48]⟩ = (1800000, 0) := by decide +kernel

def TrueRetO (w : World) (e : Ending) (w' : World) : Prop := e = .returned (.bool true) ∧ Below w.heap.size w w'

set_option maxHeartbeats 4000000 in
set_option maxRecDepth 100000 in
theorem law_offsets (t o : Int) (w : World) (ho0 : -9223372036854775808 ≤ o) (ho1 : o ≤ 9223372036854775807) : Calls Try.prog 7 #[.int .i64 t, .int .i64 o] w (TrueRetO w) := by
  have HS := Lib.hid (fun w => stamp_any ⟨#[49, 57, 55, 48, 45, 48, 49, 45, 48, 49, 84, 48, 48, 58, 48, 48, 58, 48, 48, 45, 48, 48, 58, 51, 48]⟩ w (by decide))
  rw [const_stamp] at HS
  by_cases hout : o < -1439 ∨ 1439 < o ∨ t < -62167219200000 ∨ 253402300799999 < t
  · go_enter Try.func7, Try.ntmps7
    by_cases a : o < -1439
    · have a' : decide (o < -1439) = true := decide_eq_true a
      go_wp2_with (go_at_call 18; refine (HS.out _).mono ?_; rintro e w1 ⟨rfl, b1⟩)
      go_ret
      exact ⟨rfl, b1⟩
    have a' : decide (o < -1439) = false := decide_eq_false a
    by_cases b : 1439 < o
    · have b' : decide (1439 < o) = true := decide_eq_true b
      go_wp2_with (go_at_call 18; refine (HS.out _).mono ?_; rintro e w1 ⟨rfl, b1⟩)
      go_ret
      exact ⟨rfl, b1⟩
    have b' : decide (1439 < o) = false := decide_eq_false b
    by_cases c : t < -62167219200000
    · have c' : decide (t < -62167219200000) = true := decide_eq_true c
      go_wp2_with (go_at_call 18; refine (HS.out _).mono ?_; rintro e w1 ⟨rfl, b1⟩)
      go_ret
      exact ⟨rfl, b1⟩
    have c' : decide (t < -62167219200000) = false := decide_eq_false c
    have d' : decide (253402300799999 < t) = true := decide_eq_true (by omega)
    go_wp2_with (go_at_call 18; refine (HS.out _).mono ?_; rintro e w1 ⟨rfl, b1⟩)
    go_ret
    exact ⟨rfl, b1⟩
  · have a' : decide (o < -1439) = false := decide_eq_false (by omega)
    have b' : decide (1439 < o) = false := decide_eq_false (by omega)
    have c' : decide (t < -62167219200000) = false := decide_eq_false (by omega)
    have d' : decide (253402300799999 < t) = false := decide_eq_false (by omega)
    have o0 : -1439 ≤ o := by omega
    have o1 : o ≤ 1439 := by omega
    have t0 : -62167219200000 ≤ t := by omega
    have t1 : t ≤ 253402300799999 := by omega
    clear hout
    go_enter Try.func7, Try.ntmps7
    go_wp2_with (go_at_call 18; refine (HS.out _).mono ?_; rintro e w1 ⟨rfl, b1⟩)
    refine (dateW_any t t0 t1 _).mono ?_
    rintro e w2 ⟨y, mo, d, h, mi, s, ms, rfl, hd, hh, b2⟩
    have bw := b1.trans (b2.mono b1.size)
    have HOF := Lib.hid (fun (Z : List UInt8) (z : Nat) (h0 : Z.getD 0 0 = UInt8.ofNat z) (h1 : z = 90 ∨ z = 43 ∨ z = 45) (h2 : 1 ≤ Z.length) (h3 : Z.length ≤ 6) (o : Int) (h4 : zoneR ⟨Z.toArray⟩ = (o, true)) => stamp_offset hd hh h0 h1 h2 h3 h4)
    have hWs : ∀ Z, wholeL y mo d h mi s ms Z = dateL y mo d h mi s ++ thL ms ++ Z := fun Z => rfl
    obtain ⟨A, hA⟩ : ∃ A, A = dateL y mo d h mi s ++ thL ms := ⟨_, rfl⟩
    have hAl : A.length ≤ 23 ∧ 19 ≤ A.length := by
      rw [hA, List.length_append, length_dateL]
      unfold thL; split <;> simp
    have hW : ∀ Z, wholeL y mo d h mi s ms Z = A ++ Z := fun Z => by rw [hA]; rfl
    have HW := Lib.hid hW
    rw [hW]
    -- the date, the date without Z
    have hsz : (⟨(A ++ [90]).toArray⟩ : ByteArray).size = A.length + 1 := by
      show (A ++ [90]).toArray.size = _
      simp
    have hex : (⟨(A ++ [90]).toArray⟩ : ByteArray).extract 0 A.length = ⟨A.toArray⟩ := by
      apply ByteArray.ext
      rw [ByteArray.data_extract]
      apply Array.ext'
      simp
    have hsl := fun w' => slice_head (⟨(A ++ [90]).toArray⟩ : ByteArray) (((⟨(A ++ [90]).toArray⟩ : ByteArray).size : Int) - 1) A.length w' (by rw [hsz]; omega) (by rw [hsz]; omega)
    rw [hex] at hsl
    have HCAT : Hid (∀ (sg : UInt8) (m : Nat), (⟨A.toArray⟩ : ByteArray) ++ ⟨[sg].toArray⟩ ++ ⟨(dig2 (m / 60)).toArray⟩ ++ ⟨[(58 : UInt8)].toArray⟩ ++ ⟨(dig2 (m % 60)).toArray⟩ = ⟨(A ++ zoL sg m).toArray⟩) := fun sg m => by
      rw [cat_list, cat_list, cat_list, cat_list]
      simp [zoL]
    have HZ : Hid (∀ (sg : UInt8) (m : Nat), (A ++ zoL sg m).length ≤ 29) := fun sg m => by
      rw [List.length_append]
      have : (zoL sg m).length = 6 := rfl
      omega
    have hn1 : decide (((⟨(A ++ [90]).toArray⟩ : ByteArray).size : Int) < 2) = false := decide_eq_false (by rw [hsz]; omega)
    have hn2 : 2 ≤ (⟨(A ++ [90]).toArray⟩ : ByteArray).size := by rw [hsz]; omega
    have hn3 : (⟨(A ++ [90]).toArray⟩ : ByteArray).size ≤ 30 := by rw [hsz]; omega
    --GEN
    have hn0 : A.length ≤ 23 := hAl.2 |> fun _ => hAl.1
    have hAl1 := hAl.1
    clear hex hA hWs hW hAl
    clear hsz hn0
    generalize (⟨(A ++ [90]).toArray⟩ : ByteArray) = D at *
    obtain ⟨DA, hDA⟩ : ∃ DA, DA = (⟨A.toArray⟩ : ByteArray) := ⟨_, rfl⟩
    rw [← hDA] at hsl HCAT
    have hDAs : DA.size ≤ 23 := by rw [hDA]; show A.toArray.size ≤ 23; simpa using hAl1
    clear hDA hAl1
    have hp1 : IntKind.i64.wrap ((D.size : Int) - 1) = (D.size : Int) - 1 := by rw [IntKind.wrap_i64]; omega
    have hp2 : wrap64 ((D.size : Int) - 1) = (D.size : Int) - 1 := by unfold wrap64; omega
    by_cases hs : o < 0
    · obtain ⟨m, rfl⟩ : ∃ m : Nat, o = -(m : Int) := ⟨(-o).toNat, by omega⟩
      have hm : m ≤ 1439 := by omega
      have hd1 : decide (-(m : Int) < 0) = true := decide_eq_true (by omega)
      have HT1 : Hid (∀ w, Calls Try.prog 20 #[.int .i64 ((m : Int) / 60)] w (BelowRet (.string ⟨(dig2 (m / 60)).toArray⟩) w)) := fun w => lawtwo_any (m / 60) (by omega) w
      have HT2 : Hid (∀ w, Calls Try.prog 20 #[.int .i64 ((m : Int) % 60)] w (BelowRet (.string ⟨(dig2 (m % 60)).toArray⟩) w)) := fun w => lawtwo_any (m % 60) (by omega) w
      have HST : Hid (∀ w, Calls Try.prog 18 #[.string (DA ++ ⟨#[45]⟩ ++ ⟨(dig2 (m / 60)).toArray⟩ ++ ⟨#[58]⟩ ++ ⟨(dig2 (m % 60)).toArray⟩)] w (MRet (rng (t - -(m : Int) * 60000)).1 (rng (t - -(m : Int) * 60000)).2 w)) := fun w => by
        have h1 := HCAT.out 45 m
        have h2 := HOF.out (zoL 45 m) 45 rfl (by omega) (by show 1 ≤ 6; omega) (by show 6 ≤ 6; omega) _ (zone_text 45 m (by decide) hm)
        rw [HW.out, if_pos (by decide)] at h2
        have h3 := stamp_any ⟨(A ++ zoL 45 m).toArray⟩ w (by have := HZ.out 45 m; show (A ++ zoL 45 m).toArray.size ≤ _; simp at this ⊢; omega)
        rw [h2, ← h1] at h3
        have e : t - -(m : Int) * 60000 = t - -((m : Int) * 60000) := by omega
        rw [e]
        exact h3
      have hr := rng_cases (t - -(m : Int) * 60000)
      have hov : wrap64 (t - -(m : Int) * 60000) = t - -(m : Int) * 60000 := by unfold wrap64; omega
      have hw60 : IntKind.i64.wrap ((m : Int) / 60) = (m : Int) / 60 := by rw [IntKind.wrap_i64]; omega
      have hw61 : IntKind.i64.wrap ((m : Int) % 60) = (m : Int) % 60 := by rw [IntKind.wrap_i64]; omega
      have htm : (m : Int).tmod 60 = (m : Int) % 60 := Int.tmod_eq_emod_of_nonneg (by omega)
      clear HCAT HOF HW HZ
      have hT1 : (⟨(dig2 (m / 60)).toArray⟩ : ByteArray).size ≤ 2 := Nat.le_refl 2
      have hT2 : (⟨(dig2 (m % 60)).toArray⟩ : ByteArray).size ≤ 2 := Nat.le_refl 2
      generalize (⟨(dig2 (m / 60)).toArray⟩ : ByteArray) = T1 at *
      generalize (⟨(dig2 (m % 60)).toArray⟩ : ByteArray) = T2 at *
      have s1 : (DA ++ (⟨#[45]⟩ : ByteArray)).size ≤ 24 := by rw [ByteArray.size_append]; have : (⟨#[45]⟩ : ByteArray).size = 1 := rfl; omega
      have s2 : (DA ++ (⟨#[45]⟩ : ByteArray) ++ T1).size ≤ 26 := by rw [ByteArray.size_append]; omega
      have s3 : (DA ++ (⟨#[45]⟩ : ByteArray) ++ T1 ++ (⟨#[58]⟩ : ByteArray)).size ≤ 27 := by rw [ByteArray.size_append]; have : (⟨#[58]⟩ : ByteArray).size = 1 := rfl; omega
      have ad1 := fun w' => run_string_add_sum (P := Try.prog) (w := w') DA (⟨#[45]⟩ : ByteArray) (by have : (⟨#[45]⟩ : ByteArray).size = 1 := rfl; omega)
      have ad2 := fun w' => run_string_add_sum (P := Try.prog) (w := w') (DA ++ (⟨#[45]⟩ : ByteArray)) T1 (by omega)
      have ad3 := fun w' => run_string_add_sum (P := Try.prog) (w := w') (DA ++ (⟨#[45]⟩ : ByteArray) ++ T1) (⟨#[58]⟩ : ByteArray) (by have : (⟨#[58]⟩ : ByteArray).size = 1 := rfl; omega)
      have ad4 := fun w' => run_string_add_sum (P := Try.prog) (w := w') (DA ++ (⟨#[45]⟩ : ByteArray) ++ T1 ++ (⟨#[58]⟩ : ByteArray)) T2 (by omega)
      clear hDAs hT1 hT2 s1 s2 s3
      go_wp2_with fail
      have B0 : Below w.heap.size w w2.drew := bw.drewN' 1
      go_region_held3 (fun w' => Below w.heap.size w w') (first | assumption | exact B0) (first | (go_at_call 20; (with_reducible refine (HT1.out _).mono ?_); rintro e w3 ⟨rfl, b3⟩; have s3 : Below w.heap.size w w3 := B0.trans (b3.mono B0.size)) | (go_at_call 20; (with_reducible refine (HT2.out _).mono ?_); rintro e w4 ⟨rfl, b4⟩; have s4 : Below w.heap.size w w4 := s3.trans (b4.mono s3.size)) | (go_at_call 18; (with_reducible refine (HST.out _).mono ?_); rintro e w5 ⟨rfl, b5⟩; have s5 : Below w.heap.size w w5 := s4.trans (b5.mono s4.size)))
      have S5 := Lib.hid s5
      clear B0 b3 s3 b4 s4 b5 s5 HST HT1 HT2
      rcases hr with ⟨r1, r2⟩ | ⟨r1, r3, r2⟩ | ⟨r1, r3, r2⟩
      all_goals
        rw [r2]
        clear r2
      · have r1' : decide (t - -(m : Int) * 60000 < -62167219200000) = true := decide_eq_true r1
        clear r1
        go_wp2_with fail
        go_ret
        exact ⟨rfl, S5.out⟩
      · have r1' : decide (t - -(m : Int) * 60000 < -62167219200000) = false := decide_eq_false (by omega)
        have r2' : decide (253402300799999 < t - -(m : Int) * 60000) = true := decide_eq_true r1
        clear r1 r3
        go_wp2_with fail
        go_ret
        exact ⟨rfl, S5.out⟩
      · have r1' : decide (t - -(m : Int) * 60000 < -62167219200000) = false := decide_eq_false (by omega)
        have r2' : decide (253402300799999 < t - -(m : Int) * 60000) = false := decide_eq_false (by omega)
        clear r1 r3
        go_wp2_with fail
        go_ret
        exact ⟨rfl, S5.out⟩
    · obtain ⟨m, rfl⟩ : ∃ m : Nat, o = (m : Int) := ⟨(o).toNat, by omega⟩
      have hm : m ≤ 1439 := by omega
      have hd1 : decide ((m : Int) < 0) = false := decide_eq_false (by omega)
      have HT1 : Hid (∀ w, Calls Try.prog 20 #[.int .i64 ((m : Int) / 60)] w (BelowRet (.string ⟨(dig2 (m / 60)).toArray⟩) w)) := fun w => lawtwo_any (m / 60) (by omega) w
      have HT2 : Hid (∀ w, Calls Try.prog 20 #[.int .i64 ((m : Int) % 60)] w (BelowRet (.string ⟨(dig2 (m % 60)).toArray⟩) w)) := fun w => lawtwo_any (m % 60) (by omega) w
      have HST : Hid (∀ w, Calls Try.prog 18 #[.string (DA ++ ⟨#[43]⟩ ++ ⟨(dig2 (m / 60)).toArray⟩ ++ ⟨#[58]⟩ ++ ⟨(dig2 (m % 60)).toArray⟩)] w (MRet (rng (t - (m : Int) * 60000)).1 (rng (t - (m : Int) * 60000)).2 w)) := fun w => by
        have h1 := HCAT.out 43 m
        have h2 := HOF.out (zoL 43 m) 43 rfl (by omega) (by show 1 ≤ 6; omega) (by show 6 ≤ 6; omega) _ (zone_text 43 m (by decide) hm)
        rw [HW.out, if_neg (by decide)] at h2
        have h3 := stamp_any ⟨(A ++ zoL 43 m).toArray⟩ w (by have := HZ.out 43 m; show (A ++ zoL 43 m).toArray.size ≤ _; simp at this ⊢; omega)
        rw [h2, ← h1] at h3
        have e : t - (m : Int) * 60000 = t - (m : Int) * 60000 := by omega
        rw [e]
        exact h3
      have hr := rng_cases (t - (m : Int) * 60000)
      have hov : wrap64 (t - (m : Int) * 60000) = t - (m : Int) * 60000 := by unfold wrap64; omega
      have hw60 : IntKind.i64.wrap ((m : Int) / 60) = (m : Int) / 60 := by rw [IntKind.wrap_i64]; omega
      have hw61 : IntKind.i64.wrap ((m : Int) % 60) = (m : Int) % 60 := by rw [IntKind.wrap_i64]; omega
      have htm : (m : Int).tmod 60 = (m : Int) % 60 := Int.tmod_eq_emod_of_nonneg (by omega)
      clear HCAT HOF HW HZ
      have hT1 : (⟨(dig2 (m / 60)).toArray⟩ : ByteArray).size ≤ 2 := Nat.le_refl 2
      have hT2 : (⟨(dig2 (m % 60)).toArray⟩ : ByteArray).size ≤ 2 := Nat.le_refl 2
      generalize (⟨(dig2 (m / 60)).toArray⟩ : ByteArray) = T1 at *
      generalize (⟨(dig2 (m % 60)).toArray⟩ : ByteArray) = T2 at *
      have s1 : (DA ++ (⟨#[43]⟩ : ByteArray)).size ≤ 24 := by rw [ByteArray.size_append]; have : (⟨#[43]⟩ : ByteArray).size = 1 := rfl; omega
      have s2 : (DA ++ (⟨#[43]⟩ : ByteArray) ++ T1).size ≤ 26 := by rw [ByteArray.size_append]; omega
      have s3 : (DA ++ (⟨#[43]⟩ : ByteArray) ++ T1 ++ (⟨#[58]⟩ : ByteArray)).size ≤ 27 := by rw [ByteArray.size_append]; have : (⟨#[58]⟩ : ByteArray).size = 1 := rfl; omega
      have ad1 := fun w' => run_string_add_sum (P := Try.prog) (w := w') DA (⟨#[43]⟩ : ByteArray) (by have : (⟨#[43]⟩ : ByteArray).size = 1 := rfl; omega)
      have ad2 := fun w' => run_string_add_sum (P := Try.prog) (w := w') (DA ++ (⟨#[43]⟩ : ByteArray)) T1 (by omega)
      have ad3 := fun w' => run_string_add_sum (P := Try.prog) (w := w') (DA ++ (⟨#[43]⟩ : ByteArray) ++ T1) (⟨#[58]⟩ : ByteArray) (by have : (⟨#[58]⟩ : ByteArray).size = 1 := rfl; omega)
      have ad4 := fun w' => run_string_add_sum (P := Try.prog) (w := w') (DA ++ (⟨#[43]⟩ : ByteArray) ++ T1 ++ (⟨#[58]⟩ : ByteArray)) T2 (by omega)
      clear hDAs hT1 hT2 s1 s2 s3
      go_wp2_with fail
      have B0 : Below w.heap.size w w2.drew := bw.drewN' 1
      go_region_held3 (fun w' => Below w.heap.size w w') (first | assumption | exact B0) (first | (go_at_call 20; (with_reducible refine (HT1.out _).mono ?_); rintro e w3 ⟨rfl, b3⟩; have s3 : Below w.heap.size w w3 := B0.trans (b3.mono B0.size)) | (go_at_call 20; (with_reducible refine (HT2.out _).mono ?_); rintro e w4 ⟨rfl, b4⟩; have s4 : Below w.heap.size w w4 := s3.trans (b4.mono s3.size)) | (go_at_call 18; (with_reducible refine (HST.out _).mono ?_); rintro e w5 ⟨rfl, b5⟩; have s5 : Below w.heap.size w w5 := s4.trans (b5.mono s4.size)))
      have S5 := Lib.hid s5
      clear B0 b3 s3 b4 s4 b5 s5 HST HT1 HT2
      rcases hr with ⟨r1, r2⟩ | ⟨r1, r3, r2⟩ | ⟨r1, r3, r2⟩
      all_goals
        rw [r2]
        clear r2
      · have r1' : decide (t - (m : Int) * 60000 < -62167219200000) = true := decide_eq_true r1
        clear r1
        go_wp2_with fail
        go_ret
        exact ⟨rfl, S5.out⟩
      · have r1' : decide (t - (m : Int) * 60000 < -62167219200000) = false := decide_eq_false (by omega)
        have r2' : decide (253402300799999 < t - (m : Int) * 60000) = true := decide_eq_true r1
        clear r1 r3
        go_wp2_with fail
        go_ret
        exact ⟨rfl, S5.out⟩
      · have r1' : decide (t - (m : Int) * 60000 < -62167219200000) = false := decide_eq_false (by omega)
        have r2' : decide (253402300799999 < t - (m : Int) * 60000) = false := decide_eq_false (by omega)
        clear r1 r3
        go_wp2_with fail
        go_ret
        exact ⟨rfl, S5.out⟩
end Go.Proofs.Ytmgnhekpgeahmaa
