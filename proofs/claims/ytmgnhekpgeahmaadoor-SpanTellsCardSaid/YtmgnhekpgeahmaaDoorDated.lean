/- dated: dates as the program reads them. -/
import Derived.Test.YtmgnhekpgeahmaaDoorDateForm
import Derived.Test.YtmgnhekpgeahmaaDoorBox
namespace Go.Proofs.YtmgnhekpgeahmaaDoor
open Go.Dur Go.Fl Go.RowKit

set_option maxHeartbeats 4000000 in
set_option maxRecDepth 100000 in
theorem dated_any (s : ByteArray) (w : World) (hs : s.size ≤ 9223372036854775806) : Calls Tryd.prog 35 #[.string s] w (BelowRet (datedV s) w) := by
  by_cases h20 : 20 ≤ s.size
  · have HMk : Hid (∀ w, Calls Tryd.prog 47 #[.string s, .string ⟨#[69, 72, 75, 78, 81]⟩, .string ⟨#[45, 45, 84, 58, 58]⟩] w (SameD (.bool (marksN s 5)) w)) := fun w => marked_any s w hs h20
    have HV : Hid (datOk s = (decide (20 ≤ s.size) && marksN s 5 && decide (0 ≤ pairN s 0 ∧ 0 ≤ pairN s 2) && decide ((civR s).2 = 0) && (ptR s).2.2 && (zoR s).2)) := rfl
    have HV2 : Hid (datedV s = if datOk s = true then .tuple #[.int .i64 (datT s - (zoR s).1), .bool true] else .tuple #[.int .i64 0, .bool false]) := rfl
    cases hmk : marksN s 5
    · have HMkV := Lib.hid hmk
      have HR : Hid (datedV s = .tuple #[.int .i64 0, .bool false]) := by show _ = _; rw [HV2.out, HV.out, hmk]; simp
      clear HV HV2 hmk
      go_enter Tryd.func35, Tryd.ntmps35
      go_wp2_with (first | (go_at_call 47; refine (HMk.out _).mono ?_; rintro e w' ⟨rfl, nm, rfl⟩; rw [HMkV.out]))
      go_ret2
      exact ⟨by rw [HR.out]; rfl, (Below.refl _ _).drewN' _⟩
    · have HMkV := Lib.hid hmk
      have HP0 : Hid (∀ w, Calls Tryd.prog 48 #[.string s, .int .i64 0] w (SameD (.int .i64 (pairN s 0)) w)) := fun w => pair_any s 0 w (by omega)
      have HP2 : Hid (∀ w, Calls Tryd.prog 48 #[.string s, .int .i64 2] w (SameD (.int .i64 (pairN s 2)) w)) := fun w => pair_any s 2 w (by omega)
      have HP5 : Hid (∀ w, Calls Tryd.prog 48 #[.string s, .int .i64 5] w (SameD (.int .i64 (pairN s 5)) w)) := fun w => pair_any s 5 w (by omega)
      have HP8 : Hid (∀ w, Calls Tryd.prog 48 #[.string s, .int .i64 8] w (SameD (.int .i64 (pairN s 8)) w)) := fun w => pair_any s 8 w (by omega)
      have HP11 : Hid (∀ w, Calls Tryd.prog 48 #[.string s, .int .i64 11] w (SameD (.int .i64 (pairN s 11)) w)) := fun w => pair_any s 11 w (by omega)
      have HP14 : Hid (∀ w, Calls Tryd.prog 48 #[.string s, .int .i64 14] w (SameD (.int .i64 (pairN s 14)) w)) := fun w => pair_any s 14 w (by omega)
      have HP17 : Hid (∀ w, Calls Tryd.prog 48 #[.string s, .int .i64 17] w (SameD (.int .i64 (pairN s 17)) w)) := fun w => pair_any s 17 w (by omega)
      have HMo : Hid (∀ w, Calls Tryd.prog 18 #[.agg #[.int .i64 (pairN s 0 * 100 + pairN s 2), .int .i64 (pairN s 5), .int .i64 (pairN s 8), .int .i64 (pairN s 11), .int .i64 (pairN s 14), .int .i64 (pairN s 17), .int .i64 0, .int .i64 0, .int .i64 0, .int .i64 0]] w (MRet (civR s).1 (civR s).2 w)) := fun w => momP_any _ _ _ _ _ _ _ _ _ _ w
      have HPt : Hid (∀ w, Calls Tryd.prog 45 #[.string s, .int .i64 19] w (Same (.tuple #[.string (ptR s).1, .int .i64 ((ptR s).2.1 : Nat), .bool (ptR s).2.2]) w)) := fun w => point_any s 19 w hs (by omega)
      have HZo : Hid (∀ w, Calls Tryd.prog 49 #[.string (s.extract (ptR s).2.1 s.size)] w (SameD (.tuple #[.int .i64 (zoR s).1, .bool (zoR s).2]) w)) := fun w => zone_any _ w (by rw [ByteArray.size_extract]; omega)
      have HFr : Hid (∀ w, Calls Tryd.prog 46 #[.string (ptR s).1] w (FracRet (ptR s).1 w)) := fun w => frac_any _ w (by have := (pt_size s).1; omega) (allD_pt s)
      have HT : Hid (datT s = (civR s).1 + ((milN (ptR s).1 3 : Nat) : Int) + upD (halfN (ptR s).1)) := rfl
      have hpt := (pt_size s).2 (by omega)
      have hml := mil_pt s
      have hcl := civ_le s
      have hzl := zone_le (s.extract (ptR s).2.1 s.size)
      have q0 := pair_ge s 0
      have q2 := pair_ge s 2
      unfold FracRet at HFr
      have hzl2 : -6000000000 ≤ (zoR s).1 ∧ (zoR s).1 ≤ 6000000000 := hzl
      clear hzl
      generalize zoR s = zr at *
      obtain ⟨zv, zok⟩ := zr
      generalize milN (ptR s).1 3 = m at *
      generalize halfN (ptR s).1 = h at *
      generalize ptR s = pr at *
      obtain ⟨dg, bh, pk⟩ := pr
      generalize civR s = cr at *
      obtain ⟨ct, ce⟩ := cr
      dsimp only at *
      have hst := fun w' => slice_tail s bh bh w' rfl hpt
      generalize pairN s 0 = p0 at *
      generalize pairN s 2 = p2 at *
      generalize pairN s 5 = p5 at *
      generalize pairN s 8 = p8 at *
      generalize pairN s 11 = p11 at *
      generalize pairN s 14 = p14 at *
      generalize pairN s 17 = p17 at *
      by_cases hp : 0 ≤ p0 ∧ 0 ≤ p2
      · by_cases hce : ce = 0
        · cases pk
          · have HR : Hid (datedV s = .tuple #[.int .i64 0, .bool false]) := by show _ = _; rw [HV2.out, HV.out]; simp
            subst hce
            clear HV HV2 hmk HZo HFr HT
            go_enter Tryd.func35, Tryd.ntmps35
            go_wp2_with (first | (go_at_call 47; refine (HMk.out _).mono ?_; rintro e w' ⟨rfl, nm, rfl⟩; rw [HMkV.out]) | (go_at_call 48; (with_reducible refine (HP0.out _).mono ?_); rintro e w' ⟨rfl, n0, rfl⟩) | (go_at_call 48; (with_reducible refine (HP2.out _).mono ?_); rintro e w' ⟨rfl, n2, rfl⟩) | (go_at_call 48; (with_reducible refine (HP5.out _).mono ?_); rintro e w' ⟨rfl, n5, rfl⟩) | (go_at_call 48; (with_reducible refine (HP8.out _).mono ?_); rintro e w' ⟨rfl, n8, rfl⟩) | (go_at_call 48; (with_reducible refine (HP11.out _).mono ?_); rintro e w' ⟨rfl, n11, rfl⟩) | (go_at_call 48; (with_reducible refine (HP14.out _).mono ?_); rintro e w' ⟨rfl, n14, rfl⟩) | (go_at_call 48; (with_reducible refine (HP17.out _).mono ?_); rintro e w' ⟨rfl, n17, rfl⟩) | (refine Bk.is_store 27 rfl ?_; refine Bk.wpList_store_box rfl 27 _ _ rfl #[.int .i64 (p0 * 100 + p2), .int .i64 p5, .int .i64 p8, .int .i64 p11, .int .i64 p14, .int .i64 p17, .int .i64 0, .int .i64 0, .int .i64 0, .int .i64 0] #[.int .i64 0, .int .i64 0, .int .i64 0, .int .i64 0, .int .i64 0, .int .i64 0, .int .i64 0, .int .i64 0, .int .i64 0, .int .i64 0] 27 rfl rfl (by kernel_rfl) rfl (by kernel_rfl) ?_; intro W hIs bW; have y0 : W.cell? ⟨w.heap.size, 0, none⟩ = some (.int .i64 (p0 * 100 + p2)) := hIs.cell 0; have y1 : W.cell? ⟨w.heap.size, 1, none⟩ = some (.int .i64 (p5)) := hIs.cell 1; have y2 : W.cell? ⟨w.heap.size, 2, none⟩ = some (.int .i64 (p8)) := hIs.cell 2; have y3 : W.cell? ⟨w.heap.size, 3, none⟩ = some (.int .i64 (p11)) := hIs.cell 3; have y4 : W.cell? ⟨w.heap.size, 4, none⟩ = some (.int .i64 (p14)) := hIs.cell 4; have y5 : W.cell? ⟨w.heap.size, 5, none⟩ = some (.int .i64 (p17)) := hIs.cell 5; have y6 : W.cell? ⟨w.heap.size, 6, none⟩ = some (.int .i64 (0)) := hIs.cell 6; have y7 : W.cell? ⟨w.heap.size, 7, none⟩ = some (.int .i64 (0)) := hIs.cell 7; have y8 : W.cell? ⟨w.heap.size, 8, none⟩ = some (.int .i64 (0)) := hIs.cell 8; have y9 : W.cell? ⟨w.heap.size, 9, none⟩ = some (.int .i64 (0)) := hIs.cell 9; have HIs := Lib.hid hIs; clear hIs) | (go_at_call 18; refine (HMo.out _).mono ?_; rintro e w1 ⟨rfl, b1⟩; clear y0 y1 y2 y3 y4 y5 y6 y7 y8 y9) | (go_at_call 45; refine (HPt.out _).mono ?_; rintro e w' ⟨rfl, rfl⟩))
            go_ret2
            exact ⟨by rw [HR.out]; rfl, bW.trans (b1.mono bW.size)⟩
          · cases zok
            · have HR : Hid (datedV s = .tuple #[.int .i64 0, .bool false]) := by show _ = _; rw [HV2.out, HV.out]; simp
              subst hce
              clear HV HV2 hmk HFr HT
              go_enter Tryd.func35, Tryd.ntmps35
              go_wp2_with (first | (go_at_call 47; refine (HMk.out _).mono ?_; rintro e w' ⟨rfl, nm, rfl⟩; rw [HMkV.out]) | (go_at_call 48; (with_reducible refine (HP0.out _).mono ?_); rintro e w' ⟨rfl, n0, rfl⟩) | (go_at_call 48; (with_reducible refine (HP2.out _).mono ?_); rintro e w' ⟨rfl, n2, rfl⟩) | (go_at_call 48; (with_reducible refine (HP5.out _).mono ?_); rintro e w' ⟨rfl, n5, rfl⟩) | (go_at_call 48; (with_reducible refine (HP8.out _).mono ?_); rintro e w' ⟨rfl, n8, rfl⟩) | (go_at_call 48; (with_reducible refine (HP11.out _).mono ?_); rintro e w' ⟨rfl, n11, rfl⟩) | (go_at_call 48; (with_reducible refine (HP14.out _).mono ?_); rintro e w' ⟨rfl, n14, rfl⟩) | (go_at_call 48; (with_reducible refine (HP17.out _).mono ?_); rintro e w' ⟨rfl, n17, rfl⟩) | (refine Bk.is_store 27 rfl ?_; refine Bk.wpList_store_box rfl 27 _ _ rfl #[.int .i64 (p0 * 100 + p2), .int .i64 p5, .int .i64 p8, .int .i64 p11, .int .i64 p14, .int .i64 p17, .int .i64 0, .int .i64 0, .int .i64 0, .int .i64 0] #[.int .i64 0, .int .i64 0, .int .i64 0, .int .i64 0, .int .i64 0, .int .i64 0, .int .i64 0, .int .i64 0, .int .i64 0, .int .i64 0] 27 rfl rfl (by kernel_rfl) rfl (by kernel_rfl) ?_; intro W hIs bW; have y0 : W.cell? ⟨w.heap.size, 0, none⟩ = some (.int .i64 (p0 * 100 + p2)) := hIs.cell 0; have y1 : W.cell? ⟨w.heap.size, 1, none⟩ = some (.int .i64 (p5)) := hIs.cell 1; have y2 : W.cell? ⟨w.heap.size, 2, none⟩ = some (.int .i64 (p8)) := hIs.cell 2; have y3 : W.cell? ⟨w.heap.size, 3, none⟩ = some (.int .i64 (p11)) := hIs.cell 3; have y4 : W.cell? ⟨w.heap.size, 4, none⟩ = some (.int .i64 (p14)) := hIs.cell 4; have y5 : W.cell? ⟨w.heap.size, 5, none⟩ = some (.int .i64 (p17)) := hIs.cell 5; have y6 : W.cell? ⟨w.heap.size, 6, none⟩ = some (.int .i64 (0)) := hIs.cell 6; have y7 : W.cell? ⟨w.heap.size, 7, none⟩ = some (.int .i64 (0)) := hIs.cell 7; have y8 : W.cell? ⟨w.heap.size, 8, none⟩ = some (.int .i64 (0)) := hIs.cell 8; have y9 : W.cell? ⟨w.heap.size, 9, none⟩ = some (.int .i64 (0)) := hIs.cell 9; have HIs := Lib.hid hIs; clear hIs) | (go_at_call 18; refine (HMo.out _).mono ?_; rintro e w1 ⟨rfl, b1⟩; clear y0 y1 y2 y3 y4 y5 y6 y7 y8 y9) | (go_at_call 45; refine (HPt.out _).mono ?_; rintro e w' ⟨rfl, rfl⟩) | (go_at_call 49; refine (HZo.out _).mono ?_; rintro e w' ⟨rfl, nz, rfl⟩))
              go_ret2
              exact ⟨by rw [HR.out]; rfl, (bW.trans (b1.mono bW.size)).drewN' _⟩
            · have HR : Hid (datedV s = .tuple #[.int .i64 (datT s - zv), .bool true]) := by show _ = _; rw [HV2.out, HV.out, hmk, if_pos (by simp [h20, hp, hce])]
              subst hce
              clear HV HV2 hmk
              by_cases hh : 0 ≤ h
              · have HTu : Hid (datT s - zv = ct + 1 + (m : Int) - zv) := by show _ = _; rw [HT.out]; unfold upD; rw [if_pos hh]; omega
                clear HT
                go_enter Tryd.func35, Tryd.ntmps35
                go_wp2_with (first | (go_at_call 47; refine (HMk.out _).mono ?_; rintro e w' ⟨rfl, nm, rfl⟩; rw [HMkV.out]) | (go_at_call 48; (with_reducible refine (HP0.out _).mono ?_); rintro e w' ⟨rfl, n0, rfl⟩) | (go_at_call 48; (with_reducible refine (HP2.out _).mono ?_); rintro e w' ⟨rfl, n2, rfl⟩) | (go_at_call 48; (with_reducible refine (HP5.out _).mono ?_); rintro e w' ⟨rfl, n5, rfl⟩) | (go_at_call 48; (with_reducible refine (HP8.out _).mono ?_); rintro e w' ⟨rfl, n8, rfl⟩) | (go_at_call 48; (with_reducible refine (HP11.out _).mono ?_); rintro e w' ⟨rfl, n11, rfl⟩) | (go_at_call 48; (with_reducible refine (HP14.out _).mono ?_); rintro e w' ⟨rfl, n14, rfl⟩) | (go_at_call 48; (with_reducible refine (HP17.out _).mono ?_); rintro e w' ⟨rfl, n17, rfl⟩) | (refine Bk.is_store 27 rfl ?_; refine Bk.wpList_store_box rfl 27 _ _ rfl #[.int .i64 (p0 * 100 + p2), .int .i64 p5, .int .i64 p8, .int .i64 p11, .int .i64 p14, .int .i64 p17, .int .i64 0, .int .i64 0, .int .i64 0, .int .i64 0] #[.int .i64 0, .int .i64 0, .int .i64 0, .int .i64 0, .int .i64 0, .int .i64 0, .int .i64 0, .int .i64 0, .int .i64 0, .int .i64 0] 27 rfl rfl (by kernel_rfl) rfl (by kernel_rfl) ?_; intro W hIs bW; have y0 : W.cell? ⟨w.heap.size, 0, none⟩ = some (.int .i64 (p0 * 100 + p2)) := hIs.cell 0; have y1 : W.cell? ⟨w.heap.size, 1, none⟩ = some (.int .i64 (p5)) := hIs.cell 1; have y2 : W.cell? ⟨w.heap.size, 2, none⟩ = some (.int .i64 (p8)) := hIs.cell 2; have y3 : W.cell? ⟨w.heap.size, 3, none⟩ = some (.int .i64 (p11)) := hIs.cell 3; have y4 : W.cell? ⟨w.heap.size, 4, none⟩ = some (.int .i64 (p14)) := hIs.cell 4; have y5 : W.cell? ⟨w.heap.size, 5, none⟩ = some (.int .i64 (p17)) := hIs.cell 5; have y6 : W.cell? ⟨w.heap.size, 6, none⟩ = some (.int .i64 (0)) := hIs.cell 6; have y7 : W.cell? ⟨w.heap.size, 7, none⟩ = some (.int .i64 (0)) := hIs.cell 7; have y8 : W.cell? ⟨w.heap.size, 8, none⟩ = some (.int .i64 (0)) := hIs.cell 8; have y9 : W.cell? ⟨w.heap.size, 9, none⟩ = some (.int .i64 (0)) := hIs.cell 9; have HIs := Lib.hid hIs; clear hIs) | (go_at_call 18; refine (HMo.out _).mono ?_; rintro e w1 ⟨rfl, b1⟩; clear y0 y1 y2 y3 y4 y5 y6 y7 y8 y9) | (go_at_call 45; refine (HPt.out _).mono ?_; rintro e w' ⟨rfl, rfl⟩) | (go_at_call 49; refine (HZo.out _).mono ?_; rintro e w' ⟨rfl, nz, rfl⟩) | (go_at_call 46; refine (HFr.out _).mono ?_; rintro e w2 ⟨rfl, b2⟩))
                go_ret2
                have c1 := (bW.trans (b1.mono bW.size)).drewN' nz
                have c2 := c1.trans (b2.mono c1.size)
                exact ⟨by rw [HR.out, HTu.out]; rfl, c2.alloc c2.size _⟩
              · have HTu : Hid (datT s - zv = ct + (m : Int) - zv) := by show _ = _; rw [HT.out]; unfold upD; rw [if_neg hh]; omega
                clear HT
                go_enter Tryd.func35, Tryd.ntmps35
                go_wp2_with (first | (go_at_call 47; refine (HMk.out _).mono ?_; rintro e w' ⟨rfl, nm, rfl⟩; rw [HMkV.out]) | (go_at_call 48; (with_reducible refine (HP0.out _).mono ?_); rintro e w' ⟨rfl, n0, rfl⟩) | (go_at_call 48; (with_reducible refine (HP2.out _).mono ?_); rintro e w' ⟨rfl, n2, rfl⟩) | (go_at_call 48; (with_reducible refine (HP5.out _).mono ?_); rintro e w' ⟨rfl, n5, rfl⟩) | (go_at_call 48; (with_reducible refine (HP8.out _).mono ?_); rintro e w' ⟨rfl, n8, rfl⟩) | (go_at_call 48; (with_reducible refine (HP11.out _).mono ?_); rintro e w' ⟨rfl, n11, rfl⟩) | (go_at_call 48; (with_reducible refine (HP14.out _).mono ?_); rintro e w' ⟨rfl, n14, rfl⟩) | (go_at_call 48; (with_reducible refine (HP17.out _).mono ?_); rintro e w' ⟨rfl, n17, rfl⟩) | (refine Bk.is_store 27 rfl ?_; refine Bk.wpList_store_box rfl 27 _ _ rfl #[.int .i64 (p0 * 100 + p2), .int .i64 p5, .int .i64 p8, .int .i64 p11, .int .i64 p14, .int .i64 p17, .int .i64 0, .int .i64 0, .int .i64 0, .int .i64 0] #[.int .i64 0, .int .i64 0, .int .i64 0, .int .i64 0, .int .i64 0, .int .i64 0, .int .i64 0, .int .i64 0, .int .i64 0, .int .i64 0] 27 rfl rfl (by kernel_rfl) rfl (by kernel_rfl) ?_; intro W hIs bW; have y0 : W.cell? ⟨w.heap.size, 0, none⟩ = some (.int .i64 (p0 * 100 + p2)) := hIs.cell 0; have y1 : W.cell? ⟨w.heap.size, 1, none⟩ = some (.int .i64 (p5)) := hIs.cell 1; have y2 : W.cell? ⟨w.heap.size, 2, none⟩ = some (.int .i64 (p8)) := hIs.cell 2; have y3 : W.cell? ⟨w.heap.size, 3, none⟩ = some (.int .i64 (p11)) := hIs.cell 3; have y4 : W.cell? ⟨w.heap.size, 4, none⟩ = some (.int .i64 (p14)) := hIs.cell 4; have y5 : W.cell? ⟨w.heap.size, 5, none⟩ = some (.int .i64 (p17)) := hIs.cell 5; have y6 : W.cell? ⟨w.heap.size, 6, none⟩ = some (.int .i64 (0)) := hIs.cell 6; have y7 : W.cell? ⟨w.heap.size, 7, none⟩ = some (.int .i64 (0)) := hIs.cell 7; have y8 : W.cell? ⟨w.heap.size, 8, none⟩ = some (.int .i64 (0)) := hIs.cell 8; have y9 : W.cell? ⟨w.heap.size, 9, none⟩ = some (.int .i64 (0)) := hIs.cell 9; have HIs := Lib.hid hIs; clear hIs) | (go_at_call 18; refine (HMo.out _).mono ?_; rintro e w1 ⟨rfl, b1⟩; clear y0 y1 y2 y3 y4 y5 y6 y7 y8 y9) | (go_at_call 45; refine (HPt.out _).mono ?_; rintro e w' ⟨rfl, rfl⟩) | (go_at_call 49; refine (HZo.out _).mono ?_; rintro e w' ⟨rfl, nz, rfl⟩) | (go_at_call 46; refine (HFr.out _).mono ?_; rintro e w2 ⟨rfl, b2⟩))
                go_ret2
                have c1 := (bW.trans (b1.mono bW.size)).drewN' nz
                have c2 := c1.trans (b2.mono c1.size)
                exact ⟨by rw [HR.out, HTu.out]; rfl, c2.alloc c2.size _⟩
        · have HR : Hid (datedV s = .tuple #[.int .i64 0, .bool false]) := by show _ = _; rw [HV2.out, HV.out]; simp [hce]
          have hce2 : ((ce : Int) != 0) = true := by simp; omega
          clear HV HV2 hmk hce HZo HFr HT
          go_enter Tryd.func35, Tryd.ntmps35
          go_wp2_with (first | (go_at_call 47; refine (HMk.out _).mono ?_; rintro e w' ⟨rfl, nm, rfl⟩; rw [HMkV.out]) | (go_at_call 48; (with_reducible refine (HP0.out _).mono ?_); rintro e w' ⟨rfl, n0, rfl⟩) | (go_at_call 48; (with_reducible refine (HP2.out _).mono ?_); rintro e w' ⟨rfl, n2, rfl⟩) | (go_at_call 48; (with_reducible refine (HP5.out _).mono ?_); rintro e w' ⟨rfl, n5, rfl⟩) | (go_at_call 48; (with_reducible refine (HP8.out _).mono ?_); rintro e w' ⟨rfl, n8, rfl⟩) | (go_at_call 48; (with_reducible refine (HP11.out _).mono ?_); rintro e w' ⟨rfl, n11, rfl⟩) | (go_at_call 48; (with_reducible refine (HP14.out _).mono ?_); rintro e w' ⟨rfl, n14, rfl⟩) | (go_at_call 48; (with_reducible refine (HP17.out _).mono ?_); rintro e w' ⟨rfl, n17, rfl⟩) | (refine Bk.is_store 27 rfl ?_; refine Bk.wpList_store_box rfl 27 _ _ rfl #[.int .i64 (p0 * 100 + p2), .int .i64 p5, .int .i64 p8, .int .i64 p11, .int .i64 p14, .int .i64 p17, .int .i64 0, .int .i64 0, .int .i64 0, .int .i64 0] #[.int .i64 0, .int .i64 0, .int .i64 0, .int .i64 0, .int .i64 0, .int .i64 0, .int .i64 0, .int .i64 0, .int .i64 0, .int .i64 0] 27 rfl rfl (by kernel_rfl) rfl (by kernel_rfl) ?_; intro W hIs bW; have y0 : W.cell? ⟨w.heap.size, 0, none⟩ = some (.int .i64 (p0 * 100 + p2)) := hIs.cell 0; have y1 : W.cell? ⟨w.heap.size, 1, none⟩ = some (.int .i64 (p5)) := hIs.cell 1; have y2 : W.cell? ⟨w.heap.size, 2, none⟩ = some (.int .i64 (p8)) := hIs.cell 2; have y3 : W.cell? ⟨w.heap.size, 3, none⟩ = some (.int .i64 (p11)) := hIs.cell 3; have y4 : W.cell? ⟨w.heap.size, 4, none⟩ = some (.int .i64 (p14)) := hIs.cell 4; have y5 : W.cell? ⟨w.heap.size, 5, none⟩ = some (.int .i64 (p17)) := hIs.cell 5; have y6 : W.cell? ⟨w.heap.size, 6, none⟩ = some (.int .i64 (0)) := hIs.cell 6; have y7 : W.cell? ⟨w.heap.size, 7, none⟩ = some (.int .i64 (0)) := hIs.cell 7; have y8 : W.cell? ⟨w.heap.size, 8, none⟩ = some (.int .i64 (0)) := hIs.cell 8; have y9 : W.cell? ⟨w.heap.size, 9, none⟩ = some (.int .i64 (0)) := hIs.cell 9; have HIs := Lib.hid hIs; clear hIs) | (go_at_call 18; refine (HMo.out _).mono ?_; rintro e w1 ⟨rfl, b1⟩; clear y0 y1 y2 y3 y4 y5 y6 y7 y8 y9) | (go_at_call 45; refine (HPt.out _).mono ?_; rintro e w' ⟨rfl, rfl⟩))
          go_ret2
          exact ⟨by rw [HR.out]; rfl, bW.trans (b1.mono bW.size)⟩
      · have HR : Hid (datedV s = .tuple #[.int .i64 0, .bool false]) := by show _ = _; rw [HV2.out, HV.out]; simp [hp]
        clear HV HV2 hmk HZo HFr HT
        rcases (show p0 < 0 ∨ (0 ≤ p0 ∧ p2 < 0) by omega) with hp1 | ⟨hp1, hp2⟩
        all_goals
          go_enter Tryd.func35, Tryd.ntmps35
          go_wp2_with (first | (go_at_call 47; refine (HMk.out _).mono ?_; rintro e w' ⟨rfl, nm, rfl⟩; rw [HMkV.out]) | (go_at_call 48; (with_reducible refine (HP0.out _).mono ?_); rintro e w' ⟨rfl, n0, rfl⟩) | (go_at_call 48; (with_reducible refine (HP2.out _).mono ?_); rintro e w' ⟨rfl, n2, rfl⟩) | (go_at_call 48; (with_reducible refine (HP5.out _).mono ?_); rintro e w' ⟨rfl, n5, rfl⟩) | (go_at_call 48; (with_reducible refine (HP8.out _).mono ?_); rintro e w' ⟨rfl, n8, rfl⟩) | (go_at_call 48; (with_reducible refine (HP11.out _).mono ?_); rintro e w' ⟨rfl, n11, rfl⟩) | (go_at_call 48; (with_reducible refine (HP14.out _).mono ?_); rintro e w' ⟨rfl, n14, rfl⟩) | (go_at_call 48; (with_reducible refine (HP17.out _).mono ?_); rintro e w' ⟨rfl, n17, rfl⟩))
          go_ret2
          exact ⟨by rw [HR.out]; rfl, (Below.refl _ _).drewN' _⟩
  · have HR : Hid (datedV s = .tuple #[.int .i64 0, .bool false]) := by show _ = _; unfold datedV datOk; rw [decide_eq_false h20]; simp
    go_enter Tryd.func35, Tryd.ntmps35
    go_wp2_with fail
    go_ret2
    exact ⟨by rw [HR.out]; rfl, Below.refl _ _⟩

end Go.Proofs.YtmgnhekpgeahmaaDoor
