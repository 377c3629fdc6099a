/- OverShift: the walk. -/
import Derived.Test.YtoeldcgclaiokaaEdgesW
import Derived.Test.YtoeldcgclaiokaaCopyB
namespace Go.Proofs.Ytoeldcgclaiokaa
open Go.Fl Go.Rel Go.RowKit
set_option linter.unusedVariables false
set_option linter.unusedSimpArgs false

theorem wrap64_mv (t z y : Int) : wrap64 (wrap64 (t + y) - wrap64 (z + y)) = wrap64 (t - z) := by unfold wrap64; omega
theorem vcs_cp (y : Int) (ss : List Smp) : vcs (ss.map (cpS y)) = vcs ss := by
  unfold vcs; rw [List.map_map]; rfl
theorem tcs_cp (y z : Int) (ss : List Smp) : tcs (wrap64 (z + y)) (ss.map (cpS y)) = tcs z ss := by
  unfold tcs; rw [List.map_map]
  refine List.map_congr_left fun s _ => ?_
  show secF (wrap64 (wrap64 (s.t + y) - wrap64 (z + y))) = _
  rw [wrap64_mv]
theorem tcs0_cp (y : Int) (ss : List Smp) : tcs (tS (ss.map (cpS y)) 0) (ss.map (cpS y)) = tcs (tS ss 0) ss := by
  cases ss with
  | nil => rfl
  | cons s ss => exact tcs_cp y s.t (s :: ss)
theorem eigs_cp (y p : Int) (ss : List Smp) : eigs (ss.map (cpS y)) p = eigs ss p := by
  unfold eigs; rw [List.map_map]
  cases ss with
  | nil => rfl
  | cons s0 ss =>
    refine List.map_congr_left fun s _ => ?_
    show (eig (wrap64 (wrap64 (s.t + y) - wrap64 (s0.t + y))) p).toNat = _
    rw [wrap64_mv]
    rfl
theorem ext_cp {ss : List Smp} {n : Nat} {F T N y : Int} (hl : ss.length = n) (s1 : sndB F T N ss n = true) (s2 : sndB (wrap64 (F + y)) (wrap64 (T + y)) (wrap64 (N + y)) (ss.map (cpS y)) n = true) (c p : Bool) :
    extO (ss.map (cpS y)) n (wrap64 (F + y)) (wrap64 (T + y)) (wrap64 (N + y)) c p = extO ss n F T N c p := by
  unfold extO
  rw [s1, s2]
  by_cases h2 : n < 2
  · rw [if_pos (.inl h2), if_pos (.inl h2)]
  · rw [if_neg (by simp; omega), if_neg (by simp; omega)]
    obtain ⟨m, rfl⟩ : ∃ m, n = m + 2 := ⟨n - 2, by omega⟩
    rw [Nat.add_sub_cancel]
    unfold extC
    simp only [vcs_cp, tS_cp y ss (show 0 < ss.length by omega), tS_cp y ss (show m + 1 < ss.length by omega), wrap64_mv]
theorem inst_cp {ss : List Smp} {n : Nat} {F T N y : Int} (hl : ss.length = n) (s1 : sndB F T N ss n = true) (s2 : sndB (wrap64 (F + y)) (wrap64 (T + y)) (wrap64 (N + y)) (ss.map (cpS y)) n = true) (c : Bool) :
    instO (ss.map (cpS y)) n (wrap64 (F + y)) (wrap64 (T + y)) (wrap64 (N + y)) c = instO ss n F T N c := by
  unfold instO
  rw [s1, s2]
  by_cases h2 : n < 2
  · rw [if_pos (.inl h2), if_pos (.inl h2)]
  · rw [if_neg (by simp; omega), if_neg (by simp; omega)]
    unfold instC
    simp only [vcs_cp, tS_cp y ss (show n - 1 < ss.length by omega), tS_cp y ss (show n - 2 < ss.length by omega), wrap64_mv]
theorem shift_eq (m : Nm) {ss : List Smp} {n k : Nat} {F T N y : Int} {qs : List Nat} (hl : ss.length = n) (s1 : sndB F T N ss n = true) (s2 : sndB (wrap64 (F + y)) (wrap64 (T + y)) (wrap64 (N + y)) (ss.map (cpS y)) n = true) :
    callO m (ss.map (cpS y)) n (wrap64 (F + y)) (wrap64 (T + y)) (wrap64 (N + y)) k qs = callO m ss n F T N k qs := by
  unfold callO
  rw [s1, s2]
  have he : m.cls (ss.map (cpS y)) n (wrap64 (F + y)) (wrap64 (T + y)) (wrap64 (N + y)) qs = m.cls ss n F T N qs := by
    cases m
    case rate => exact ext_cp hl s1 s2 _ _
    case increase => exact ext_cp hl s1 s2 _ _
    case delta => exact ext_cp hl s1 s2 _ _
    case irate => exact inst_cp hl s1 s2 _
    case idelta => exact inst_cp hl s1 s2 _
    case deriv => show some _ = some _; rw [tcs0_cp, vcs_cp]
    case predict => show some _ = some _; rw [tcs_cp, vcs_cp]
    case beat => show some (beatC _ _) = some (beatC _ _); unfold beatC; rw [vcs_cp, eigs_cp]
    case count => rfl
    case present => rfl
    all_goals (show some _ = some _; rw [vcs_cp])
  rw [he]

set_option maxHeartbeats 8000000 in
set_option maxRecDepth 100000 in
theorem law_shift (a : Option Addr) (n cap : Nat) (ss : List Smp) (F T N by0 : Int) (av : Nat) (w : World) (hr : SRow w a n ss) (hn : n < 5864062014805) :
    Calls Try.prog 5 #[.agg #[.slice a n cap, .int .i64 F, .int .i64 T, .int .i64 N], .int .i64 by0, .float .f64 av] w (BoolB true w) := by
  have HA := Lib.hid (alive_any)
  have HN := Lib.hid (names_any)
  have hl := hr.1
  obtain ⟨w0, hw0⟩ : ∃ w0, w0 = w.alloc (.cells #[.slice a n cap, .int .i64 F, .int .i64 T, .int .i64 N] 30) := ⟨_, rfl⟩
  have HI0 : Hid (Bk.Is w0 w.heap.size (winCells a n cap F T N) 30) := by show Bk.Is _ _ _ _; rw [hw0]; exact Bk.Is.made w _ _
  have HB0 : Hid (Below w.heap.size w w0) := by show Below _ _ _; rw [hw0]; exact (Below.refl _ _).alloc (Nat.le_refl _) _
  obtain ⟨d, hd⟩ : ∃ d, d = by0.tmod 4503599627370496 := ⟨_, rfl⟩
  have hbnd : -4503599627370496 < d ∧ d < 4503599627370496 := by
    rw [hd]
    have h1 := Int.tmod_lt_of_pos by0 (show (0 : Int) < 4503599627370496 by decide)
    have h2 := Int.tmod_lt_of_pos (-by0) (show (0 : Int) < 4503599627370496 by decide)
    rw [Int.neg_tmod] at h2
    omega
  have hd1 : by0.tmod 4503599627370496 = d := hd.symm
  have hd2 : IntKind.i64.wrap (by0.tmod 4503599627370496) = d := by rw [hd1, IntKind.wrap_i64]; omega
  have hd3 : IntKind.i64.wrap d = d := by rw [IntKind.wrap_i64]; omega
  have HR := Lib.hid hr
  have HL := Lib.hid hl
  have HNN := Lib.hid hn
  have HW0 := Lib.hid hw0
  have HM1 : Hid (∀ W, Below w.heap.size w W → Calls Try.prog 20 #[.agg #[.slice a n cap, .int .i64 F, .int .i64 T, .int .i64 N]] W (BoolB (sndB F T N ss n) W)) := fun W hb => made_any a n cap ss F T N W (hr.below hb) (by omega)
  have HCP : Hid (∀ W, Below w.heap.size w W → Calls Try.prog 21 #[.agg #[.slice a n cap, .int .i64 F, .int .i64 T, .int .i64 N], .int .i64 d] W (CopyRet d ss F T N W)) := fun W hb => copied_any a n cap ss F T N d W (hr.below hb) hn
  clear hr hw0 hl hn hd hbnd
  cases hs1 : sndB F T N ss n with
  | false =>
    rw [hs1] at HM1
    clear hs1
    go_enter Try.func5, Try.ntmps5
    go_wp2_with (first
      | (go_at_call 10; rw [← HW0.out]; ((with_reducible refine (HA.out _).mono ?_); rintro e w1 ⟨rfl, b1⟩; have BX := Lib.hid (HB0.out.trans (b1.mono HB0.out.size)); obtain ⟨x30, x31, x32, x33⟩ := win_cells (HI0.out.below b1 HI0.out.lt); clear b1))
      | (go_at_call 20; ((with_reducible refine (HM1.out _ BX.out).mono ?_); rintro e w3 ⟨rfl, b3⟩)))
    go_ret
    exact ⟨rfl, BX.out.trans (b3.mono BX.out.size)⟩
  | true =>
    rw [hs1] at HM1
    have HS1 := Lib.hid hs1
    clear hs1
    go_enter Try.func5, Try.ntmps5
    go_upto_region 6 with (first
      | (go_at_call 10; rw [← HW0.out]; ((with_reducible refine (HA.out _).mono ?_); rintro e w1 ⟨rfl, b1⟩; have BX := Lib.hid (HB0.out.trans (b1.mono HB0.out.size)); have J0 := Lib.hid (HI0.out.below b1 HI0.out.lt); obtain ⟨x30, x31, x32, x33⟩ := win_cells J0.out; clear b1))
      | (go_at_call 20; ((with_reducible refine (HM1.out _ BX.out).mono ?_); rintro e w3 ⟨rfl, b3⟩; have BX3 := Lib.hid (BX.out.trans (b3.mono BX.out.size)); have J3 := Lib.hid (J0.out.below b3 J0.out.lt); clear b3 x30 x31 x32 x33; obtain ⟨x30, x31, x32, x33⟩ := win_cells J3.out)))
    go_upto_region 7 with (go_at_call 21; ((with_reducible refine (HCP.out _ BX3.out).mono ?_); rintro e wk ⟨v, rfl, hown, b4⟩; obtain ⟨a2, cap2, rfl, hr2⟩ := hown.row (tS_cpb d ss); have hlm : (ss.map (cpS d)).length = n := (by rw [List.length_map, HL.out]); rw [hlm] at hr2 ⊢; have HRB := Lib.hid hr2; have BX4 := Lib.hid (BX3.out.trans (b4.mono BX3.out.size)); have J4 := Lib.hid (J3.out.below b4 J3.out.lt); clear b4 hown hr2 hlm x30 x31 x32 x33))
    obtain ⟨W5, hW5⟩ : ∃ W5, W5 = wk.alloc (.cells #[.slice a2 n cap2, .int .i64 (wrap64 (F + d)), .int .i64 (wrap64 (T + d)), .int .i64 (wrap64 (N + d))] 30) := ⟨_, rfl⟩
    have I5 : Hid (Bk.Is W5 wk.heap.size (winCells a2 n cap2 (wrap64 (F + d)) (wrap64 (T + d)) (wrap64 (N + d))) 30) := by show Bk.Is _ _ _ _; rw [hW5]; exact Bk.Is.made wk _ _
    have b45 : Below wk.heap.size wk W5 := by rw [hW5]; exact (Below.refl _ _).alloc (Nat.le_refl _) _
    have BX5 := Lib.hid (BX4.out.trans (b45.mono BX4.out.size))
    have J5 := Lib.hid (J4.out.below b45 J4.out.lt)
    have HRB5 := Lib.hid (HRB.out.below b45)
    rw [← hW5]
    clear b45 hW5
    obtain ⟨x40, x41, x42, x43⟩ := win_cells I5.out
    have HM2 : Hid (Calls Try.prog 20 #[.agg #[.slice a2 n cap2, .int .i64 (wrap64 (F + d)), .int .i64 (wrap64 (T + d)), .int .i64 (wrap64 (N + d))]] W5 (BoolB (sndB (wrap64 (F + d)) (wrap64 (T + d)) (wrap64 (N + d)) (ss.map (cpS d)) n) W5)) := made_any a2 n cap2 (ss.map (cpS d)) _ _ _ W5 HRB5.out (by have := HNN.out; omega)
    cases hs2 : sndB (wrap64 (F + d)) (wrap64 (T + d)) (wrap64 (N + d)) (ss.map (cpS d)) n with
    | false =>
      rw [hs2] at HM2
      clear hs2
      go_wp2_with (go_at_call 20; ((with_reducible refine HM2.out.mono ?_); rintro e w6 ⟨rfl, b6⟩))
      go_ret
      exact ⟨rfl, BX5.out.trans (b6.mono BX5.out.size)⟩
    | true =>
      rw [hs2] at HM2
      have HEQ : Hid (∀ (m : Nm) k qs, callO m (ss.map (cpS d)) n (wrap64 (F + d)) (wrap64 (T + d)) (wrap64 (N + d)) k qs = callO m ss n F T N k qs) := fun m k qs => shift_eq m HL.out HS1.out hs2
      clear hs2
      go_upto_block 0 with (first
        | (go_at_call 20; ((with_reducible refine HM2.out.mono ?_); rintro e w6 ⟨rfl, b6⟩; have BX6 := Lib.hid (BX5.out.trans (b6.mono BX5.out.size)); have J6 := Lib.hid (J5.out.below b6 J5.out.lt); have I6 := Lib.hid (I5.out.below b6 I5.out.lt); have HRB6 := Lib.hid (HRB5.out.below b6); clear b6))
        | (go_at_call 11; ((with_reducible refine (HN.out _).mono ?_); rintro e w2 ⟨B, rfl, hB, hnm, b2⟩; have B2 := Lib.hid (BX6.out.trans (b2.mono BX6.out.size)); have NM : Hid (NamesAt B w2) := hnm; have J7 := Lib.hid (J6.out.below b2 J6.out.lt); have I7 := Lib.hid (I6.out.below b2 I6.out.lt); have HRB7 := Lib.hid (HRB6.out.below b2); clear hB hnm b2)))
      clear x40 x41 x42 x43
      have HR2 := Lib.hid (HR.out.below B2.out)
      go_wp2_with fail
      go_loopw [9] (ORel 23 w2) (fun vi _ => 23 - (intOf vi).toNat)
      case atStart => exact ⟨0, by omega, rfl, Below.refl _ _⟩
      case round =>
        obtain ⟨i, hi, rfl, bw⟩ := hrel
        by_cases hin : i < 23
        · obtain ⟨m, hm⟩ : ∃ m, m = nmAt i := ⟨_, rfl⟩
          have HBW := Lib.hid bw
          have hci : wr.cell? ⟨B, i, none⟩ = some (.string m.str) := by rw [hm]; exact (NM.out.below bw) i hin
          obtain ⟨x30, x31, x32, x33⟩ := win_cells (J7.out.below bw J7.out.lt)
          obtain ⟨x40, x41, x42, x43⟩ := win_cells (I7.out.below bw I7.out.lt)
          have hst := And.intro hci (And.intro x30 (And.intro x31 (And.intro x32 (And.intro x33 (And.intro x40 (And.intro x41 (And.intro x42 (And.intro x43 bw))))))))
          have HBD := Lib.hid (keepD9 hst).2.2.2.2.2.2.2.2.2
          clear bw hm
          have ib : (i : Int) < 23 := by omega
          have ib0 : (0 : Int) ≤ (i : Int) := by omega
          obtain ⟨o, ho⟩ : ∃ o, o = callO m ss n F T N m.nums ((qsOf m av 4602678819172646912).map cn) := ⟨_, rfl⟩
          have HNUM := Lib.hid (numbers_any m av 4602678819172646912)
          have HC1 : Hid (∀ W aa, Below w2.heap.size w2 W → Row W aa m.nums (qsOf m av 4602678819172646912) → Calls Try.prog 12 #[.string m.str, .agg #[.slice a n cap, .int .i64 F, .int .i64 T, .int .i64 N], .slice aa m.nums m.nums] W (OptRet o W)) := fun W aa hb h => by
            rw [ho]; exact call_nm m a n cap ss F T N aa m.nums m.nums _ W (HR2.out.below hb) (by have := HNN.out; omega) h
          have HC2 : Hid (∀ W aa, Below w2.heap.size w2 W → Row W aa m.nums (qsOf m av 4602678819172646912) → Calls Try.prog 12 #[.string m.str, .agg #[.slice a2 n cap2, .int .i64 (wrap64 (F + d)), .int .i64 (wrap64 (T + d)), .int .i64 (wrap64 (N + d))], .slice aa m.nums m.nums] W (OptRet o W)) := fun W aa hb h => by
            rw [ho, ← HEQ.out]; exact call_nm m a2 n cap2 _ _ _ _ aa m.nums m.nums _ W (HRB7.out.below hb) (by have := HNN.out; omega) h
          clear ho
          cases o with
          | none =>
            go_wp2_with fail
            go_region_held3 (fun w' => w'.cell? ⟨B, i, none⟩ = some (.string m.str) ∧ w'.cell? ⟨w.heap.size, 0, none⟩ = some (.slice a n cap) ∧ w'.cell? ⟨w.heap.size, 1, none⟩ = some (.int .i64 F) ∧ w'.cell? ⟨w.heap.size, 2, none⟩ = some (.int .i64 T) ∧ w'.cell? ⟨w.heap.size, 3, none⟩ = some (.int .i64 N) ∧ w'.cell? ⟨wk.heap.size, 0, none⟩ = some (.slice a2 n cap2) ∧ w'.cell? ⟨wk.heap.size, 1, none⟩ = some (.int .i64 (wrap64 (F + d))) ∧ w'.cell? ⟨wk.heap.size, 2, none⟩ = some (.int .i64 (wrap64 (T + d))) ∧ w'.cell? ⟨wk.heap.size, 3, none⟩ = some (.int .i64 (wrap64 (N + d))) ∧ Below w2.heap.size w2 w') (first | assumption | exact keep9 (by assumption) (by assumption) | exact keepD9 (by assumption)) (first
              | (go_at_call 22; ((with_reducible refine (HNUM.out _).mono ?_); rintro e w4 ⟨aa, rfl, hrow, b4⟩; have HROWw4 := Lib.hid hrow; clear hrow))
              | (go_at_call 12; ((with_reducible refine (HC1.out _ _ (HBD.out.trans (b4.mono HBD.out.size)) HROWw4.out).mono ?_); rintro e w5 ⟨rfl, b5⟩)))
            rename_i hHeld
            have HH := Lib.hid hHeld
            have HBD2 := Lib.hid (keepD9 hHeld).2.2.2.2.2.2.2.2.2
            clear hHeld
            have hst2 := HH.out
            go_wp2_with fail
            go_region_held3 (fun w' => w'.cell? ⟨B, i, none⟩ = some (.string m.str) ∧ w'.cell? ⟨w.heap.size, 0, none⟩ = some (.slice a n cap) ∧ w'.cell? ⟨w.heap.size, 1, none⟩ = some (.int .i64 F) ∧ w'.cell? ⟨w.heap.size, 2, none⟩ = some (.int .i64 T) ∧ w'.cell? ⟨w.heap.size, 3, none⟩ = some (.int .i64 N) ∧ w'.cell? ⟨wk.heap.size, 0, none⟩ = some (.slice a2 n cap2) ∧ w'.cell? ⟨wk.heap.size, 1, none⟩ = some (.int .i64 (wrap64 (F + d))) ∧ w'.cell? ⟨wk.heap.size, 2, none⟩ = some (.int .i64 (wrap64 (T + d))) ∧ w'.cell? ⟨wk.heap.size, 3, none⟩ = some (.int .i64 (wrap64 (N + d))) ∧ Below w2.heap.size w2 w') (first | assumption | exact keep9 (by assumption) (by assumption) | exact keepD9 (by assumption)) (first
              | (go_at_call 22; ((with_reducible refine (HNUM.out _).mono ?_); rintro e w6 ⟨ab, rfl, hrow, b6⟩; have HROWw6 := Lib.hid hrow; clear hrow))
              | (go_at_call 12; ((with_reducible refine (HC2.out _ _ (HBD2.out.trans (b6.mono HBD2.out.size)) HROWw6.out).mono ?_); rintro e w7 ⟨rfl, b7⟩)))
            rename_i hHeld2
            have HBE := Lib.hid hHeld2.2.2.2.2.2.2.2.2.2
            clear hHeld2 hst2 HH
            have HSM := same_z
            go_wp2_with (go_at_call 17; ((with_reducible refine (same_any _ _ _).mono ?_); rintro e w8 ⟨rfl, rfl⟩; rw [HSM]))
            go_roundw
            case rel => exact ⟨i + 1, by omega, by go_num, HBE.out⟩
            case measure => simp [intOf]; omega
          | some c =>
            go_wp2_with fail
            go_region_held3 (fun w' => w'.cell? ⟨B, i, none⟩ = some (.string m.str) ∧ w'.cell? ⟨w.heap.size, 0, none⟩ = some (.slice a n cap) ∧ w'.cell? ⟨w.heap.size, 1, none⟩ = some (.int .i64 F) ∧ w'.cell? ⟨w.heap.size, 2, none⟩ = some (.int .i64 T) ∧ w'.cell? ⟨w.heap.size, 3, none⟩ = some (.int .i64 N) ∧ w'.cell? ⟨wk.heap.size, 0, none⟩ = some (.slice a2 n cap2) ∧ w'.cell? ⟨wk.heap.size, 1, none⟩ = some (.int .i64 (wrap64 (F + d))) ∧ w'.cell? ⟨wk.heap.size, 2, none⟩ = some (.int .i64 (wrap64 (T + d))) ∧ w'.cell? ⟨wk.heap.size, 3, none⟩ = some (.int .i64 (wrap64 (N + d))) ∧ Below w2.heap.size w2 w') (first | assumption | exact keep9 (by assumption) (by assumption) | exact keepD9 (by assumption)) (first
              | (go_at_call 22; ((with_reducible refine (HNUM.out _).mono ?_); rintro e w4 ⟨aa, rfl, hrow, b4⟩; have HROWw4 := Lib.hid hrow; clear hrow))
              | (go_at_call 12; ((with_reducible refine (HC1.out _ _ (HBD.out.trans (b4.mono HBD.out.size)) HROWw4.out).mono ?_); rintro e w5 ⟨r, rfl, hr1, b5⟩)))
            rename_i hHeld
            have HH := Lib.hid hHeld
            have HBD2 := Lib.hid (keepD9 hHeld).2.2.2.2.2.2.2.2.2
            clear hHeld
            have hst2 := HH.out
            go_wp2_with fail
            go_region_held3 (fun w' => w'.cell? ⟨B, i, none⟩ = some (.string m.str) ∧ w'.cell? ⟨w.heap.size, 0, none⟩ = some (.slice a n cap) ∧ w'.cell? ⟨w.heap.size, 1, none⟩ = some (.int .i64 F) ∧ w'.cell? ⟨w.heap.size, 2, none⟩ = some (.int .i64 T) ∧ w'.cell? ⟨w.heap.size, 3, none⟩ = some (.int .i64 N) ∧ w'.cell? ⟨wk.heap.size, 0, none⟩ = some (.slice a2 n cap2) ∧ w'.cell? ⟨wk.heap.size, 1, none⟩ = some (.int .i64 (wrap64 (F + d))) ∧ w'.cell? ⟨wk.heap.size, 2, none⟩ = some (.int .i64 (wrap64 (T + d))) ∧ w'.cell? ⟨wk.heap.size, 3, none⟩ = some (.int .i64 (wrap64 (N + d))) ∧ Below w2.heap.size w2 w') (first | assumption | exact keep9 (by assumption) (by assumption) | exact keepD9 (by assumption)) (first
              | (go_at_call 22; ((with_reducible refine (HNUM.out _).mono ?_); rintro e w6 ⟨ab, rfl, hrow, b6⟩; have HROWw6 := Lib.hid hrow; clear hrow))
              | (go_at_call 12; ((with_reducible refine (HC2.out _ _ (HBD2.out.trans (b6.mono HBD2.out.size)) HROWw6.out).mono ?_); rintro e w7 ⟨r2, rfl, hr2, b7⟩)))
            rename_i hHeld2
            have HBE := Lib.hid hHeld2.2.2.2.2.2.2.2.2.2
            clear hHeld2 hst2 HH
            have HSM : (cn r == cn r2) = true := by rw [hr1, hr2]; simp
            go_wp2_with (go_at_call 17; ((with_reducible refine (same_any _ _ _).mono ?_); rintro e w8 ⟨rfl, rfl⟩; rw [HSM]))
            go_roundw
            case rel => exact ⟨i + 1, by omega, by go_num, HBE.out⟩
            case measure => simp [intOf]; omega
        · obtain rfl : i = 23 := by omega
          go_wp2_with fail
          go_ret
          exact ⟨rfl, B2.out.trans (bw.mono B2.out.size)⟩
end Go.Proofs.Ytoeldcgclaiokaa
