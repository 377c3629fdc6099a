/- date: dates as the reference reads them. -/
import Derived.Test.YtmgnhekpgeahmaaDateForm
import Derived.Test.YtmgnhekpgeahmaaBox
namespace Go.Proofs.Ytmgnhekpgeahmaa
open Go.Dur Go.Fl Go.RowKit

theorem form_bytes : ∀ k : Fin 19, ((ByteArray.mk #[100, 100, 100, 100, 45, 100, 100, 45, 100, 100, 84, 100, 100, 58, 100, 100, 58, 100, 100])[k.1]'k.2).toNat = fC k.1 := by decide +kernel
theorem form_byte (k : Nat) (h : k < 19) : ((ByteArray.mk #[100, 100, 100, 100, 45, 100, 100, 45, 100, 100, 84, 100, 100, 58, 100, 100, 58, 100, 100])[k]'h).toNat = fC k := form_bytes ⟨k, h⟩

def FormRel (s : ByteArray) (w : World) (i : Value) (wr : World) : Prop := ∃ k n : Nat, k ≤ 19 ∧ i = .int .i64 (k : Int) ∧ wr = w.drewN n ∧ formN s k = true

theorem mil_empty : milN ⟨#[]⟩ 3 = 0 := by decide +kernel
theorem half_empty : halfN ⟨#[]⟩ = -1 := by decide +kernel

set_option maxHeartbeats 4000000 in
set_option maxRecDepth 100000 in
theorem date_any (s : ByteArray) (w : World) (hs : s.size ≤ 9223372036854775806) : Calls Try.prog 41 #[.string s] w (BelowRet (dateV s) w) := by
  have HV : Hid (datRok s = (decide (19 ≤ s.size) && formN s 19 && decide ((civR s).2 = 0) && (ptR s).2.2)) := rfl
  have HV2 : Hid (dateV s = if datRok s = true then .tuple #[.int .i64 (datT s - (zoR s).1), .bool (zoR s).2] else .tuple #[.int .i64 0, .bool false]) := rfl
  by_cases h19 : 19 ≤ s.size
  · go_enter Try.func41, Try.ntmps41
    go_wp2_with fail
    go_loopw [5] (FormRel s w) (fun i _ => 19 - (intOf i).toNat)
    case atStart => exact ⟨0, 0, by omega, rfl, rfl, rfl⟩
    case round =>
      obtain ⟨k, nk, hk, rfl, rfl, hfm⟩ := hrel
      have Hfm := Lib.hid hfm
      clear hfm
      by_cases hlt : k < 19
      · have hb := bt_get s (show k < s.size by omega)
        have hf := form_byte k hlt
        have HN : Hid (formN s (k + 1) = (formN s k && okAt s k)) := rfl
        have HO : Hid (okAt s k = if fC k = 100 then isD (bt s k) else decide (bt s k = fC k)) := rfl
        have HBad : Hid (okAt s k = false → dateV s = .tuple #[.int .i64 0, .bool false]) := fun h => by
          have h2 : formN s 19 = false := form_mono s (show k + 1 ≤ 19 by omega) (by rw [HN.out, h]; simp)
          rw [HV2.out, HV.out, h2]; simp
        clear HV HV2
        generalize bt s k = c at *
        generalize fC k = f at *
        by_cases h100 : f = 100
        · cases hd : isD c
          · have HR := Lib.hid (HBad.out (by rw [HO.out, if_pos h100, hd]))
            have Hd := Lib.hid hd
            clear hd HBad HO HN
            subst h100
            have HDg : Hid (∀ w, Calls Try.prog 50 #[.int .u8 (c : Int)] w (Same (.bool false) w)) := fun w => by rw [← Hd.out]; exact refdigit_any c w
            go_wp2_with fail
            go_quiet (first | (go_at_call 50; exact quiet_of_eq2 (HDg.out _)))
            go_wp2_with fail
            go_ret2
            exact ⟨by rw [HR.out]; rfl, ((Below.refl _ _).drewN' _).drewN' _⟩
          · have HR : Hid (formN s (k + 1) = true) := by show _ = _; rw [HN.out, Hfm.out, HO.out, if_pos h100, hd]; rfl
            have Hd := Lib.hid hd
            clear hd HBad HO HN
            subst h100
            have HDg : Hid (∀ w, Calls Try.prog 50 #[.int .u8 (c : Int)] w (Same (.bool true) w)) := fun w => by rw [← Hd.out]; exact refdigit_any c w
            go_wp2_with fail
            go_quiet (first | (go_at_call 50; exact quiet_of_eq2 (HDg.out _)))
            go_wp2_with fail
            exact ⟨⟨k + 1, _, by omega, by simp, rfl, HR.out⟩, by simp [intOf]; omega⟩
        · have hq1 : ((f : Int) == 100) = false := neb (c := f) (k := 100) h100
          have hq2 : ((f : Int) != 100) = true := bnne (c := f) (k := 100) h100
          by_cases hcf : c = f
          · have HR : Hid (formN s (k + 1) = true) := by show _ = _; rw [HN.out, Hfm.out, HO.out, if_neg h100, decide_eq_true hcf]; rfl
            have hq3 : ((c : Int) != (f : Int)) = false := bneq hcf
            clear HBad HO HN h100 hcf
            go_wp2_with fail
            go_quiet (fail)
            go_wp2_with fail
            exact ⟨⟨k + 1, _, by omega, by simp, rfl, HR.out⟩, by simp [intOf]; omega⟩
          · have HR := Lib.hid (HBad.out (by rw [HO.out, if_neg h100, decide_eq_false hcf]))
            have hq3 : ((c : Int) != (f : Int)) = true := bnne hcf
            clear HBad HO HN h100 hcf
            go_wp2_with fail
            go_quiet (fail)
            go_wp2_with fail
            go_ret2
            exact ⟨by rw [HR.out]; rfl, ((Below.refl _ _).drewN' _).drewN' _⟩
      · have hk19 : k = 19 := by omega
        subst hk19
        have hfm := Hfm.out
        have HP0 : Hid (∀ w, Calls Try.prog 58 #[.string s, .int .i64 0] w (SameD (.int .i64 (pairN s 0)) w)) := fun w => reftwo_any s 0 w (by omega)
        have HP2 : Hid (∀ w, Calls Try.prog 58 #[.string s, .int .i64 2] w (SameD (.int .i64 (pairN s 2)) w)) := fun w => reftwo_any s 2 w (by omega)
        have HP5 : Hid (∀ w, Calls Try.prog 58 #[.string s, .int .i64 5] w (SameD (.int .i64 (pairN s 5)) w)) := fun w => reftwo_any s 5 w (by omega)
        have HP8 : Hid (∀ w, Calls Try.prog 58 #[.string s, .int .i64 8] w (SameD (.int .i64 (pairN s 8)) w)) := fun w => reftwo_any s 8 w (by omega)
        have HP11 : Hid (∀ w, Calls Try.prog 58 #[.string s, .int .i64 11] w (SameD (.int .i64 (pairN s 11)) w)) := fun w => reftwo_any s 11 w (by omega)
        have HP14 : Hid (∀ w, Calls Try.prog 58 #[.string s, .int .i64 14] w (SameD (.int .i64 (pairN s 14)) w)) := fun w => reftwo_any s 14 w (by omega)
        have HP17 : Hid (∀ w, Calls Try.prog 58 #[.string s, .int .i64 17] w (SameD (.int .i64 (pairN s 17)) w)) := fun w => reftwo_any s 17 w (by omega)
        have HMo : Hid (∀ w, Calls Try.prog 10 #[.agg #[.int .i64 (pairN s 0 * 100 + pairN s 2), .int .i64 (pairN s 5), .int .i64 (pairN s 8), .int .i64 (pairN s 11), .int .i64 (pairN s 14), .int .i64 (pairN s 17), .int .i64 0, .int .i64 0, .int .i64 0, .int .i64 0]] w (MRet (civR s).1 (civR s).2 w)) := fun w => (both2 _ _ _ _ _ _ _ _ _ _ w).2
        have HZo : Hid (∀ w, Calls Try.prog 59 #[.string (s.extract (ptR s).2.1 s.size)] w (SameD (.tuple #[.int .i64 (zoR s).1, .bool (zoR s).2]) w)) := fun w => offset_any _ w (by rw [ByteArray.size_extract]; omega)
        have HTh : Hid (∀ w, Calls Try.prog 57 #[.string (ptR s).1] w (SameD (.tuple #[.int .i64 ((milN (ptR s).1 3 : Nat) : Int), .int .i64 (halfN (ptR s).1)]) w)) := fun w => thou_any _ w (by have := (pt_size s).1; omega) (allD_pt s)
        have HT : Hid (datT s = (civR s).1 + ((milN (ptR s).1 3 : Nat) : Int) + upD (halfN (ptR s).1)) := rfl
        have HRn : Hid (20 ≤ s.size → ∀ w, Calls Try.prog 32 #[.string s, .int .i64 20] w (Same (.int .i64 ((runE s 20 : Nat) : Int)) w)) := fun h w => refrun_any s 20 w h hs
        have HPt : Hid (ptR s = if s.size ≤ 19 ∨ bt s 19 ≠ 46 then (⟨#[]⟩, 19, true) else (s.extract 20 (runE s 20), runE s 20, decide (20 < runE s 20))) := rfl
        have hpt := (pt_size s).2 h19
        have hml := mil_pt s
        have hcl := civ_le s
        have hzl2 : -6000000000 ≤ (zoR s).1 ∧ (zoR s).1 ≤ 6000000000 := zone_le (s.extract (ptR s).2.1 s.size)
        have q0 := pair_ge s 0
        have q2 := pair_ge s 2
        have hE := runE_ge s 20
        have hE2 : 20 ≤ s.size → runE s 20 ≤ s.size := fun h => runE_le s h
        generalize runE s 20 = E at *
        generalize zoR s = zr at *
        obtain ⟨zv, zok⟩ := zr
        generalize hm0 : milN (ptR s).1 3 = m at *
        generalize hh0 : halfN (ptR s).1 = h at *
        have Hm0 := Lib.hid hm0
        have Hh0 := Lib.hid hh0
        clear hm0 hh0
        generalize ptR s = pr at *
        obtain ⟨dg, bh, pk⟩ := pr
        generalize civR s = cr at *
        obtain ⟨ct, ce⟩ := cr
        dsimp only at *
        have hst := fun w' => slice_tail s bh bh w' rfl hpt
        generalize pairN s 0 = p0 at *
        generalize pairN s 2 = p2 at *
        generalize pairN s 5 = p5 at *
        generalize pairN s 8 = p8 at *
        generalize pairN s 11 = p11 at *
        generalize pairN s 14 = p14 at *
        generalize pairN s 17 = p17 at *
        by_cases hce : ce = 0
        · subst hce
          by_cases hdot : 19 < s.size ∧ bt s 19 = 46
          · obtain ⟨hd1, hd2⟩ := hdot
            have hb := bt_get s hd1
            have hq : ((bt s 19 : Int) == 46) = true := eqb hd2
            have hEl := hE2 (by omega)
            have HRn2 := Lib.hid (HRn.out (by omega))
            have hpr := HPt.out
            rw [if_neg (by omega)] at hpr
            injection hpr with e1 e2
            injection e2 with e2 e3
            subst e1
            subst e2
            clear HRn HPt hE2 hd2
            by_cases h20 : 20 < bh
            · have hpk : pk = true := by rw [e3]; exact decide_eq_true h20
              have HR : Hid (dateV s = .tuple #[.int .i64 (datT s - zv), .bool zok]) := by show _ = _; rw [HV2.out, HV.out, hfm, hpk, if_pos (by simp [h19])]
              have hsl := fun w' => slice_run s 20 bh 20 bh w' rfl rfl hE hEl
              have hne : ((bh : Int) == 20) = false := by simp; omega
              clear HV HV2 hfm e3 hpk
              by_cases hh : 0 ≤ h
              · have HTu : Hid (datT s - zv = ct + (m : Int) + 1 - zv) := by show _ = _; rw [HT.out]; unfold upD; rw [if_pos hh]
                clear HT
                go_wp2_with (first | (go_at_call 58; (with_reducible refine (HP0.out _).mono ?_); rintro e w' ⟨rfl, n0, rfl⟩) | (go_at_call 58; (with_reducible refine (HP2.out _).mono ?_); rintro e w' ⟨rfl, n2, rfl⟩) | (go_at_call 58; (with_reducible refine (HP5.out _).mono ?_); rintro e w' ⟨rfl, n5, rfl⟩) | (go_at_call 58; (with_reducible refine (HP8.out _).mono ?_); rintro e w' ⟨rfl, n8, rfl⟩) | (go_at_call 58; (with_reducible refine (HP11.out _).mono ?_); rintro e w' ⟨rfl, n11, rfl⟩) | (go_at_call 58; (with_reducible refine (HP14.out _).mono ?_); rintro e w' ⟨rfl, n14, rfl⟩) | (go_at_call 58; (with_reducible refine (HP17.out _).mono ?_); rintro e w' ⟨rfl, n17, rfl⟩) | (refine Bk.is_store 23 rfl ?_; refine Bk.wpList_store_box rfl 23 _ _ rfl #[.int .i64 (p0 * 100 + p2), .int .i64 p5, .int .i64 p8, .int .i64 p11, .int .i64 p14, .int .i64 p17, .int .i64 0, .int .i64 0, .int .i64 0, .int .i64 0] #[.int .i64 0, .int .i64 0, .int .i64 0, .int .i64 0, .int .i64 0, .int .i64 0, .int .i64 0, .int .i64 0, .int .i64 0, .int .i64 0] 23 rfl rfl (by kernel_rfl) rfl (by kernel_rfl) ?_; intro W hIs bW; have y0 : W.cell? ⟨w.heap.size, 0, none⟩ = some (.int .i64 (p0 * 100 + p2)) := hIs.cell 0; have y1 : W.cell? ⟨w.heap.size, 1, none⟩ = some (.int .i64 (p5)) := hIs.cell 1; have y2 : W.cell? ⟨w.heap.size, 2, none⟩ = some (.int .i64 (p8)) := hIs.cell 2; have y3 : W.cell? ⟨w.heap.size, 3, none⟩ = some (.int .i64 (p11)) := hIs.cell 3; have y4 : W.cell? ⟨w.heap.size, 4, none⟩ = some (.int .i64 (p14)) := hIs.cell 4; have y5 : W.cell? ⟨w.heap.size, 5, none⟩ = some (.int .i64 (p17)) := hIs.cell 5; have y6 : W.cell? ⟨w.heap.size, 6, none⟩ = some (.int .i64 (0)) := hIs.cell 6; have y7 : W.cell? ⟨w.heap.size, 7, none⟩ = some (.int .i64 (0)) := hIs.cell 7; have y8 : W.cell? ⟨w.heap.size, 8, none⟩ = some (.int .i64 (0)) := hIs.cell 8; have y9 : W.cell? ⟨w.heap.size, 9, none⟩ = some (.int .i64 (0)) := hIs.cell 9; have HIs := Lib.hid hIs; clear hIs) | (go_at_call 10; refine (HMo.out _).mono ?_; rintro e w1 ⟨rfl, b1⟩; clear y0 y1 y2 y3 y4 y5 y6 y7 y8 y9) | (go_at_call 32; refine (HRn2.out _).mono ?_; rintro e w' ⟨rfl, rfl⟩) | (go_at_call 57; refine (HTh.out _).mono ?_; rintro e w' ⟨rfl, nt, rfl⟩) | (go_at_call 59; refine (HZo.out _).mono ?_; rintro e w' ⟨rfl, nz, rfl⟩))
                go_ret2
                have c1 := (bW.trans (b1.mono bW.size)).drewN' nt
                exact ⟨by rw [HR.out, HTu.out]; rfl, by have c2 := c1.drewN' nz; simpa using c2⟩
              · have HTu : Hid (datT s - zv = ct + (m : Int) - zv) := by show _ = _; rw [HT.out]; unfold upD; rw [if_neg hh]; omega
                clear HT
                go_wp2_with (first | (go_at_call 58; (with_reducible refine (HP0.out _).mono ?_); rintro e w' ⟨rfl, n0, rfl⟩) | (go_at_call 58; (with_reducible refine (HP2.out _).mono ?_); rintro e w' ⟨rfl, n2, rfl⟩) | (go_at_call 58; (with_reducible refine (HP5.out _).mono ?_); rintro e w' ⟨rfl, n5, rfl⟩) | (go_at_call 58; (with_reducible refine (HP8.out _).mono ?_); rintro e w' ⟨rfl, n8, rfl⟩) | (go_at_call 58; (with_reducible refine (HP11.out _).mono ?_); rintro e w' ⟨rfl, n11, rfl⟩) | (go_at_call 58; (with_reducible refine (HP14.out _).mono ?_); rintro e w' ⟨rfl, n14, rfl⟩) | (go_at_call 58; (with_reducible refine (HP17.out _).mono ?_); rintro e w' ⟨rfl, n17, rfl⟩) | (refine Bk.is_store 23 rfl ?_; refine Bk.wpList_store_box rfl 23 _ _ rfl #[.int .i64 (p0 * 100 + p2), .int .i64 p5, .int .i64 p8, .int .i64 p11, .int .i64 p14, .int .i64 p17, .int .i64 0, .int .i64 0, .int .i64 0, .int .i64 0] #[.int .i64 0, .int .i64 0, .int .i64 0, .int .i64 0, .int .i64 0, .int .i64 0, .int .i64 0, .int .i64 0, .int .i64 0, .int .i64 0] 23 rfl rfl (by kernel_rfl) rfl (by kernel_rfl) ?_; intro W hIs bW; have y0 : W.cell? ⟨w.heap.size, 0, none⟩ = some (.int .i64 (p0 * 100 + p2)) := hIs.cell 0; have y1 : W.cell? ⟨w.heap.size, 1, none⟩ = some (.int .i64 (p5)) := hIs.cell 1; have y2 : W.cell? ⟨w.heap.size, 2, none⟩ = some (.int .i64 (p8)) := hIs.cell 2; have y3 : W.cell? ⟨w.heap.size, 3, none⟩ = some (.int .i64 (p11)) := hIs.cell 3; have y4 : W.cell? ⟨w.heap.size, 4, none⟩ = some (.int .i64 (p14)) := hIs.cell 4; have y5 : W.cell? ⟨w.heap.size, 5, none⟩ = some (.int .i64 (p17)) := hIs.cell 5; have y6 : W.cell? ⟨w.heap.size, 6, none⟩ = some (.int .i64 (0)) := hIs.cell 6; have y7 : W.cell? ⟨w.heap.size, 7, none⟩ = some (.int .i64 (0)) := hIs.cell 7; have y8 : W.cell? ⟨w.heap.size, 8, none⟩ = some (.int .i64 (0)) := hIs.cell 8; have y9 : W.cell? ⟨w.heap.size, 9, none⟩ = some (.int .i64 (0)) := hIs.cell 9; have HIs := Lib.hid hIs; clear hIs) | (go_at_call 10; refine (HMo.out _).mono ?_; rintro e w1 ⟨rfl, b1⟩; clear y0 y1 y2 y3 y4 y5 y6 y7 y8 y9) | (go_at_call 32; refine (HRn2.out _).mono ?_; rintro e w' ⟨rfl, rfl⟩) | (go_at_call 57; refine (HTh.out _).mono ?_; rintro e w' ⟨rfl, nt, rfl⟩) | (go_at_call 59; refine (HZo.out _).mono ?_; rintro e w' ⟨rfl, nz, rfl⟩))
                go_ret2
                have c1 := (bW.trans (b1.mono bW.size)).drewN' nt
                exact ⟨by rw [HR.out, HTu.out]; rfl, by have c2 := c1.drewN' nz; simpa using c2⟩
            · have hpk : pk = false := by rw [e3]; exact decide_eq_false h20
              have HR : Hid (dateV s = .tuple #[.int .i64 0, .bool false]) := by show _ = _; rw [HV2.out, HV.out, hpk]; simp
              have hbe : bh = 20 := by omega
              clear HV HV2 hfm e3 hpk HT HTh HZo hst Hm0 Hh0
              subst hbe
              go_wp2_with (first | (go_at_call 58; (with_reducible refine (HP0.out _).mono ?_); rintro e w' ⟨rfl, n0, rfl⟩) | (go_at_call 58; (with_reducible refine (HP2.out _).mono ?_); rintro e w' ⟨rfl, n2, rfl⟩) | (go_at_call 58; (with_reducible refine (HP5.out _).mono ?_); rintro e w' ⟨rfl, n5, rfl⟩) | (go_at_call 58; (with_reducible refine (HP8.out _).mono ?_); rintro e w' ⟨rfl, n8, rfl⟩) | (go_at_call 58; (with_reducible refine (HP11.out _).mono ?_); rintro e w' ⟨rfl, n11, rfl⟩) | (go_at_call 58; (with_reducible refine (HP14.out _).mono ?_); rintro e w' ⟨rfl, n14, rfl⟩) | (go_at_call 58; (with_reducible refine (HP17.out _).mono ?_); rintro e w' ⟨rfl, n17, rfl⟩) | (refine Bk.is_store 23 rfl ?_; refine Bk.wpList_store_box rfl 23 _ _ rfl #[.int .i64 (p0 * 100 + p2), .int .i64 p5, .int .i64 p8, .int .i64 p11, .int .i64 p14, .int .i64 p17, .int .i64 0, .int .i64 0, .int .i64 0, .int .i64 0] #[.int .i64 0, .int .i64 0, .int .i64 0, .int .i64 0, .int .i64 0, .int .i64 0, .int .i64 0, .int .i64 0, .int .i64 0, .int .i64 0] 23 rfl rfl (by kernel_rfl) rfl (by kernel_rfl) ?_; intro W hIs bW; have y0 : W.cell? ⟨w.heap.size, 0, none⟩ = some (.int .i64 (p0 * 100 + p2)) := hIs.cell 0; have y1 : W.cell? ⟨w.heap.size, 1, none⟩ = some (.int .i64 (p5)) := hIs.cell 1; have y2 : W.cell? ⟨w.heap.size, 2, none⟩ = some (.int .i64 (p8)) := hIs.cell 2; have y3 : W.cell? ⟨w.heap.size, 3, none⟩ = some (.int .i64 (p11)) := hIs.cell 3; have y4 : W.cell? ⟨w.heap.size, 4, none⟩ = some (.int .i64 (p14)) := hIs.cell 4; have y5 : W.cell? ⟨w.heap.size, 5, none⟩ = some (.int .i64 (p17)) := hIs.cell 5; have y6 : W.cell? ⟨w.heap.size, 6, none⟩ = some (.int .i64 (0)) := hIs.cell 6; have y7 : W.cell? ⟨w.heap.size, 7, none⟩ = some (.int .i64 (0)) := hIs.cell 7; have y8 : W.cell? ⟨w.heap.size, 8, none⟩ = some (.int .i64 (0)) := hIs.cell 8; have y9 : W.cell? ⟨w.heap.size, 9, none⟩ = some (.int .i64 (0)) := hIs.cell 9; have HIs := Lib.hid hIs; clear hIs) | (go_at_call 10; refine (HMo.out _).mono ?_; rintro e w1 ⟨rfl, b1⟩; clear y0 y1 y2 y3 y4 y5 y6 y7 y8 y9) | (go_at_call 32; refine (HRn2.out _).mono ?_; rintro e w' ⟨rfl, rfl⟩))
              go_ret2
              exact ⟨by rw [HR.out]; rfl, bW.trans (b1.mono bW.size)⟩
          · have hpr := HPt.out
            rw [if_pos (by omega)] at hpr
            injection hpr with e1 e2
            injection e2 with e2 e3
            subst e1
            subst e2
            subst e3
            have HR : Hid (dateV s = .tuple #[.int .i64 (datT s - zv), .bool zok]) := by show _ = _; rw [HV2.out, HV.out, hfm, if_pos (by simp [h19])]
            have HTu : Hid (datT s - zv = ct - zv) := by
              show _ = _
              rw [HT.out, ← Hm0.out, ← Hh0.out, mil_empty, half_empty]
              unfold upD
              rw [if_neg (by omega)]; omega
            clear HV HV2 hfm HRn HPt hE2 HT HTh Hm0 Hh0
            by_cases hd1 : 19 < s.size
            · have hb := bt_get s hd1
              have hq : ((bt s 19 : Int) == 46) = false := neb (c := bt s 19) (k := 46) (fun h => hdot ⟨hd1, h⟩)
              clear hdot
              go_wp2_with (first | (go_at_call 58; (with_reducible refine (HP0.out _).mono ?_); rintro e w' ⟨rfl, n0, rfl⟩) | (go_at_call 58; (with_reducible refine (HP2.out _).mono ?_); rintro e w' ⟨rfl, n2, rfl⟩) | (go_at_call 58; (with_reducible refine (HP5.out _).mono ?_); rintro e w' ⟨rfl, n5, rfl⟩) | (go_at_call 58; (with_reducible refine (HP8.out _).mono ?_); rintro e w' ⟨rfl, n8, rfl⟩) | (go_at_call 58; (with_reducible refine (HP11.out _).mono ?_); rintro e w' ⟨rfl, n11, rfl⟩) | (go_at_call 58; (with_reducible refine (HP14.out _).mono ?_); rintro e w' ⟨rfl, n14, rfl⟩) | (go_at_call 58; (with_reducible refine (HP17.out _).mono ?_); rintro e w' ⟨rfl, n17, rfl⟩) | (refine Bk.is_store 23 rfl ?_; refine Bk.wpList_store_box rfl 23 _ _ rfl #[.int .i64 (p0 * 100 + p2), .int .i64 p5, .int .i64 p8, .int .i64 p11, .int .i64 p14, .int .i64 p17, .int .i64 0, .int .i64 0, .int .i64 0, .int .i64 0] #[.int .i64 0, .int .i64 0, .int .i64 0, .int .i64 0, .int .i64 0, .int .i64 0, .int .i64 0, .int .i64 0, .int .i64 0, .int .i64 0] 23 rfl rfl (by kernel_rfl) rfl (by kernel_rfl) ?_; intro W hIs bW; have y0 : W.cell? ⟨w.heap.size, 0, none⟩ = some (.int .i64 (p0 * 100 + p2)) := hIs.cell 0; have y1 : W.cell? ⟨w.heap.size, 1, none⟩ = some (.int .i64 (p5)) := hIs.cell 1; have y2 : W.cell? ⟨w.heap.size, 2, none⟩ = some (.int .i64 (p8)) := hIs.cell 2; have y3 : W.cell? ⟨w.heap.size, 3, none⟩ = some (.int .i64 (p11)) := hIs.cell 3; have y4 : W.cell? ⟨w.heap.size, 4, none⟩ = some (.int .i64 (p14)) := hIs.cell 4; have y5 : W.cell? ⟨w.heap.size, 5, none⟩ = some (.int .i64 (p17)) := hIs.cell 5; have y6 : W.cell? ⟨w.heap.size, 6, none⟩ = some (.int .i64 (0)) := hIs.cell 6; have y7 : W.cell? ⟨w.heap.size, 7, none⟩ = some (.int .i64 (0)) := hIs.cell 7; have y8 : W.cell? ⟨w.heap.size, 8, none⟩ = some (.int .i64 (0)) := hIs.cell 8; have y9 : W.cell? ⟨w.heap.size, 9, none⟩ = some (.int .i64 (0)) := hIs.cell 9; have HIs := Lib.hid hIs; clear hIs) | (go_at_call 10; refine (HMo.out _).mono ?_; rintro e w1 ⟨rfl, b1⟩; clear y0 y1 y2 y3 y4 y5 y6 y7 y8 y9) | (go_at_call 59; refine (HZo.out _).mono ?_; rintro e w' ⟨rfl, nz, rfl⟩))
              go_ret2
              exact ⟨by rw [HR.out, HTu.out]; rfl, (bW.trans (b1.mono bW.size)).drewN' _⟩
            · clear hdot
              go_wp2_with (first | (go_at_call 58; (with_reducible refine (HP0.out _).mono ?_); rintro e w' ⟨rfl, n0, rfl⟩) | (go_at_call 58; (with_reducible refine (HP2.out _).mono ?_); rintro e w' ⟨rfl, n2, rfl⟩) | (go_at_call 58; (with_reducible refine (HP5.out _).mono ?_); rintro e w' ⟨rfl, n5, rfl⟩) | (go_at_call 58; (with_reducible refine (HP8.out _).mono ?_); rintro e w' ⟨rfl, n8, rfl⟩) | (go_at_call 58; (with_reducible refine (HP11.out _).mono ?_); rintro e w' ⟨rfl, n11, rfl⟩) | (go_at_call 58; (with_reducible refine (HP14.out _).mono ?_); rintro e w' ⟨rfl, n14, rfl⟩) | (go_at_call 58; (with_reducible refine (HP17.out _).mono ?_); rintro e w' ⟨rfl, n17, rfl⟩) | (refine Bk.is_store 23 rfl ?_; refine Bk.wpList_store_box rfl 23 _ _ rfl #[.int .i64 (p0 * 100 + p2), .int .i64 p5, .int .i64 p8, .int .i64 p11, .int .i64 p14, .int .i64 p17, .int .i64 0, .int .i64 0, .int .i64 0, .int .i64 0] #[.int .i64 0, .int .i64 0, .int .i64 0, .int .i64 0, .int .i64 0, .int .i64 0, .int .i64 0, .int .i64 0, .int .i64 0, .int .i64 0] 23 rfl rfl (by kernel_rfl) rfl (by kernel_rfl) ?_; intro W hIs bW; have y0 : W.cell? ⟨w.heap.size, 0, none⟩ = some (.int .i64 (p0 * 100 + p2)) := hIs.cell 0; have y1 : W.cell? ⟨w.heap.size, 1, none⟩ = some (.int .i64 (p5)) := hIs.cell 1; have y2 : W.cell? ⟨w.heap.size, 2, none⟩ = some (.int .i64 (p8)) := hIs.cell 2; have y3 : W.cell? ⟨w.heap.size, 3, none⟩ = some (.int .i64 (p11)) := hIs.cell 3; have y4 : W.cell? ⟨w.heap.size, 4, none⟩ = some (.int .i64 (p14)) := hIs.cell 4; have y5 : W.cell? ⟨w.heap.size, 5, none⟩ = some (.int .i64 (p17)) := hIs.cell 5; have y6 : W.cell? ⟨w.heap.size, 6, none⟩ = some (.int .i64 (0)) := hIs.cell 6; have y7 : W.cell? ⟨w.heap.size, 7, none⟩ = some (.int .i64 (0)) := hIs.cell 7; have y8 : W.cell? ⟨w.heap.size, 8, none⟩ = some (.int .i64 (0)) := hIs.cell 8; have y9 : W.cell? ⟨w.heap.size, 9, none⟩ = some (.int .i64 (0)) := hIs.cell 9; have HIs := Lib.hid hIs; clear hIs) | (go_at_call 10; refine (HMo.out _).mono ?_; rintro e w1 ⟨rfl, b1⟩; clear y0 y1 y2 y3 y4 y5 y6 y7 y8 y9) | (go_at_call 59; refine (HZo.out _).mono ?_; rintro e w' ⟨rfl, nz, rfl⟩))
              go_ret2
              exact ⟨by rw [HR.out, HTu.out]; rfl, (bW.trans (b1.mono bW.size)).drewN' _⟩
        · have HR : Hid (dateV s = .tuple #[.int .i64 0, .bool false]) := by show _ = _; rw [HV2.out, HV.out]; simp [hce]
          have hce2 : ((ce : Int) != 0) = true := by simp; omega
          clear HV HV2 hfm hce HT HTh HZo hst Hm0 Hh0 HRn HPt hE2
          go_wp2_with (first | (go_at_call 58; (with_reducible refine (HP0.out _).mono ?_); rintro e w' ⟨rfl, n0, rfl⟩) | (go_at_call 58; (with_reducible refine (HP2.out _).mono ?_); rintro e w' ⟨rfl, n2, rfl⟩) | (go_at_call 58; (with_reducible refine (HP5.out _).mono ?_); rintro e w' ⟨rfl, n5, rfl⟩) | (go_at_call 58; (with_reducible refine (HP8.out _).mono ?_); rintro e w' ⟨rfl, n8, rfl⟩) | (go_at_call 58; (with_reducible refine (HP11.out _).mono ?_); rintro e w' ⟨rfl, n11, rfl⟩) | (go_at_call 58; (with_reducible refine (HP14.out _).mono ?_); rintro e w' ⟨rfl, n14, rfl⟩) | (go_at_call 58; (with_reducible refine (HP17.out _).mono ?_); rintro e w' ⟨rfl, n17, rfl⟩) | (refine Bk.is_store 23 rfl ?_; refine Bk.wpList_store_box rfl 23 _ _ rfl #[.int .i64 (p0 * 100 + p2), .int .i64 p5, .int .i64 p8, .int .i64 p11, .int .i64 p14, .int .i64 p17, .int .i64 0, .int .i64 0, .int .i64 0, .int .i64 0] #[.int .i64 0, .int .i64 0, .int .i64 0, .int .i64 0, .int .i64 0, .int .i64 0, .int .i64 0, .int .i64 0, .int .i64 0, .int .i64 0] 23 rfl rfl (by kernel_rfl) rfl (by kernel_rfl) ?_; intro W hIs bW; have y0 : W.cell? ⟨w.heap.size, 0, none⟩ = some (.int .i64 (p0 * 100 + p2)) := hIs.cell 0; have y1 : W.cell? ⟨w.heap.size, 1, none⟩ = some (.int .i64 (p5)) := hIs.cell 1; have y2 : W.cell? ⟨w.heap.size, 2, none⟩ = some (.int .i64 (p8)) := hIs.cell 2; have y3 : W.cell? ⟨w.heap.size, 3, none⟩ = some (.int .i64 (p11)) := hIs.cell 3; have y4 : W.cell? ⟨w.heap.size, 4, none⟩ = some (.int .i64 (p14)) := hIs.cell 4; have y5 : W.cell? ⟨w.heap.size, 5, none⟩ = some (.int .i64 (p17)) := hIs.cell 5; have y6 : W.cell? ⟨w.heap.size, 6, none⟩ = some (.int .i64 (0)) := hIs.cell 6; have y7 : W.cell? ⟨w.heap.size, 7, none⟩ = some (.int .i64 (0)) := hIs.cell 7; have y8 : W.cell? ⟨w.heap.size, 8, none⟩ = some (.int .i64 (0)) := hIs.cell 8; have y9 : W.cell? ⟨w.heap.size, 9, none⟩ = some (.int .i64 (0)) := hIs.cell 9; have HIs := Lib.hid hIs; clear hIs) | (go_at_call 10; refine (HMo.out _).mono ?_; rintro e w1 ⟨rfl, b1⟩; clear y0 y1 y2 y3 y4 y5 y6 y7 y8 y9))
          go_ret2
          exact ⟨by rw [HR.out]; rfl, bW.trans (b1.mono bW.size)⟩
  · have HR : Hid (dateV s = .tuple #[.int .i64 0, .bool false]) := by show _ = _; rw [HV2.out, HV.out, decide_eq_false h19]; simp
    go_enter Try.func41, Try.ntmps41
    go_wp2_with fail
    go_ret2
    exact ⟨by rw [HR.out]; rfl, Below.refl _ _⟩

end Go.Proofs.Ytmgnhekpgeahmaa
