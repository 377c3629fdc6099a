/- weirref16.Valid: is this a label set? -/
import Derived.Test.YtmmfjknnbkcniaaGreatLbV
import Derived.Test.YtmmfjknnbkcniaaGreatUtfAll
namespace Go.Proofs.YtmmfjknnbkcniaaGreat
open Go.Fl Go.Rel Go.RowKit Go.Utf
set_option linter.unusedSimpArgs false
set_option linter.unusedVariables false

theorem okL_first {ls : List Lb} {N V : ByteArray} (hN : N = nL ls 0) (hV : V = vL ls 0) (h1 : labB N = true) (h2 : ¬ V.size = 0) (h3 : utf8B V = true) : okL ls 0 = true := by
  unfold okL; rw [← hN, ← hV, h1, h3, decide_eq_false h2]; simp

set_option maxHeartbeats 4000000 in
set_option maxRecDepth 100000 in
theorem rvalid_any (a : Option Addr) (n cap : Nat) (ls : List Lb) (w : World) (hr : LRow w a n ls) :
    Calls Tryz.prog 36 #[.slice a n cap] w fun e w' => e = .returned (.bool ((List.range n).all (okL ls))) ∧ Below w.heap.size w w' := by
  have HR := Lib.hid hr
  have hl := hr.1
  have n1 : (n : Int) ≤ 9223372036854775807 := by have := hr.2.1; omega
  clear hr
  go_enter Tryz.func36, Tryz.ntmps36
  go_wp2_with fail
  go_loopw [3] (ValidRel ls w) (fun v _ => n - (intOf v).toNat)
  case atStart => exact ⟨0, rfl, by omega, fun j h => by omega, Below.refl _ _⟩
  case round =>
    obtain ⟨k, rfl, hk, hok, bel⟩ := hrel
    have hrw := HR.out.below bel
    by_cases hlt : k < n
    · obtain ⟨b, off, ha, hbl, hcell⟩ := hrw.2.2.2 (by omega)
      subst ha
      obtain ⟨c0, c1⟩ := hcell k hlt
      have hsm := hrw.2.2.1 k
      obtain ⟨N, hN⟩ : ∃ N, N = nL ls k := ⟨_, rfl⟩
      obtain ⟨V, hV⟩ : ∃ V, V = vL ls k := ⟨_, rfl⟩
      rw [← hN] at c0 hsm
      rw [← hV] at c1 hsm
      have k1 : (0 : Int) ≤ (k : Int) := by omega
      have k2 : (k : Int) < (n : Int) := by omega
      have HUV : Hid (∀ W, Calls Tryz.prog 53 #[.string V] W fun e w' => e = .returned (.bool (utf8B V)) ∧ Below W.heap.size W w') := Lib.hid (fun W => rutf_any V W hsm.2)
      have HIL : Hid (∀ W, Calls Tryz.prog 52 #[.string N] W fun e w' => e = .returned (.bool (labB N)) ∧ W = w') := Lib.hid (fun W => rislabel_any N W hsm.1)
      have hem := empty_iff V
      have HN := Lib.hid hN
      have HV := Lib.hid hV
      have HOK := Lib.hid hok
      have HB := Lib.hid bel
      have Hcell := Lib.hid hcell
      clear hcell hN hV hsm hok hrw bel
      cases h1 : labB N
      · have HE : Hid ((List.range n).all (okL ls) = false) := Lib.hid (by
          rw [List.all_eq_false]
          exact ⟨k, List.mem_range.2 hlt, by unfold okL; rw [← HN.out, ← HV.out, h1]; simp⟩)
        rw [h1] at HIL
        go_wp2_with (go_at_call 52; refine (HIL.out _).mono ?_; rintro e w' ⟨rfl, rfl⟩)
        go_ret
        exact ⟨by rw [HE.out]; rfl, HB.out⟩
      by_cases h2 : V.size = 0
      · have HE : Hid ((List.range n).all (okL ls) = false) := Lib.hid (by
          rw [List.all_eq_false]
          exact ⟨k, List.mem_range.2 hlt, by unfold okL; rw [← HN.out, ← HV.out, h1, decide_eq_true h2]; simp⟩)
        rw [h1] at HIL
        rw [decide_eq_true h2] at hem
        go_wp2_with (go_at_call 52; refine (HIL.out _).mono ?_; rintro e w' ⟨rfl, rfl⟩)
        go_ret
        exact ⟨by rw [HE.out]; rfl, HB.out⟩
      rw [decide_eq_false h2] at hem
      rw [h1] at HIL
      cases h3 : utf8B V
      · have HE : Hid ((List.range n).all (okL ls) = false) := Lib.hid (by
          rw [List.all_eq_false]
          exact ⟨k, List.mem_range.2 hlt, by unfold okL; rw [← HN.out, ← HV.out, h1, h3]; simp⟩)
        rw [h3] at HUV
        go_wp2_with (first | (go_at_call 52; refine (HIL.out _).mono ?_; rintro e w' ⟨rfl, rfl⟩) | (go_at_call 53; refine (HUV.out _).mono ?_; rintro e w2 ⟨rfl, bel2⟩; have HB2 := Lib.hid bel2; clear bel2))
        go_ret
        exact ⟨by rw [HE.out]; rfl, HB.out.trans (HB2.out.mono HB.out.size)⟩
      rw [h3] at HUV
      by_cases hkz : k = 0
      · subst hkz
        have HK : Hid (okL ls 0 = true) := okL_first HN.out HV.out h1 h2 h3
        have c0' : wr.cell? ⟨b, off, none⟩ = some (.string N) := by simpa using c0
        have c1' : wr.cell? ⟨b, off + 1, none⟩ = some (.string V) := by simpa using c1
        go_wp2_with (first | (go_at_call 52; refine (HIL.out _).mono ?_; rintro e w' ⟨rfl, rfl⟩) | (go_at_call 53; refine (HUV.out _).mono ?_; rintro e w2 ⟨rfl, bel2⟩; have HB2 := Lib.hid bel2; clear bel2))
        refine wp_region_rel (fun wd => ∃ nd, wd = w2.drewN nd) (fun _ _ _ => False) (by kernel_rfl) (by kernel_rfl) (by repeat (first | exact ⟨_, rfl⟩ | refine drew_class _ _ ?_ | refine drewN_class _ _ _ ?_)) (LidK.out ?_)
        iterate 3 (refine wpRel_guardK (by rfl) (by kernel_rfl) ?_; intro K hK; have hK2 := LidK.mk hK; clear hK; go_big_quiet_step (fail); refine wpQuiet_nil ?_; refine hK2.out _ ?_; clear hK2 K)
        iterate 12 (refine wpRel_skipK w2 ⟨0, rfl⟩ (by kernel_rfl) ?_; intro K hK; have hK2 := LidK.mk hK; clear hK; go_big_quiet_step (fail); refine wpQuiet_nil ?_; refine hK2.out _ ?_; clear hK2 K)
        (refine wpRel_guardK (by rfl) (by kernel_rfl) ?_; intro K hK; have hK2 := LidK.mk hK; clear hK; go_big_quiet_step (fail); refine wpQuiet_nil ?_; refine hK2.out _ ?_; clear hK2 K)
        refine LidK.mk (wpRel_nil ?_)
        rintro w3 ⟨m3, rfl⟩
        go_wp2_with fail
        go_roundw
        case rel => exact ⟨0 + 1, by first | rfl | (congr 1; omega), by omega, fun j hj => by rw [show j = 0 by omega]; exact HK.out, (HB.out.trans (HB2.out.mono HB.out.size)).drewN' m3⟩
        case measure => simp [intOf]; omega
      · obtain ⟨q, hq⟩ : ∃ q, k = q + 1 := ⟨k - 1, by omega⟩
        obtain ⟨Pn, hPn⟩ : ∃ Pn, Pn = nL ls (k - 1) := ⟨_, rfl⟩
        have cP := (Hcell.out q (by omega)).1
        rw [show nL ls q = Pn by rw [hPn, hq]; rfl] at cP
        have HP := Lib.hid hPn
        have HQ := Lib.hid hq
        have hk0 : (0 : Int) < (k : Int) := by omega
        have hk0n : 0 < k := by omega
        have kq : (k : Int) - 1 = (q : Int) := by omega
        have q1 : (0 : Int) ≤ (q : Int) := by omega
        have q2 : (q : Int) < (n : Int) := by omega
        have kw : IntKind.i64.wrap (q : Int) = (q : Int) := by rw [IntKind.wrap_i64]; omega
        have HLT := Lib.hid hlt
        have CP : Hid (∀ wd, Below wr.heap.size wr wd → wd.cell? ⟨b, off + q * 2, none⟩ = some (.string Pn)) := Lib.hid fun wd hb => cell_stayL cP hb
        have CN : Hid (∀ wd, Below wr.heap.size wr wd → wd.cell? ⟨b, off + k * 2, none⟩ = some (.string N)) := Lib.hid fun wd hb => cell_stayL c0 hb
        have HK : Hid (okL ls k = Op.bytesLess Pn.toList N.toList) := Lib.hid (by
          unfold okL; rw [← HN.out, ← HV.out, h1, h3, decide_eq_false h2, decide_eq_false hkz, HP.out]; simp)
        clear hPn hq cP hkz
        cases hlex : Op.bytesLess Pn.toList N.toList
        · have HE : Hid ((List.range n).all (okL ls) = false) := Lib.hid (by
            rw [List.all_eq_false]
            exact ⟨k, List.mem_range.2 hlt, by rw [HK.out, hlex]; simp⟩)
          go_wp2_with (first | (go_at_call 52; refine (HIL.out _).mono ?_; rintro e w' ⟨rfl, rfl⟩) | (go_at_call 53; refine (HUV.out _).mono ?_; rintro e w2 ⟨rfl, bel2⟩; have d0 := CP.out _ bel2; have d1 := CN.out _ bel2; clear c0 c1; have HB2 := Lib.hid bel2; clear bel2))
          refine wp_region_rel (fun wd => ∃ nd, wd = w2.drewN nd) (fun _ _ _ => False) (by kernel_rfl) (by kernel_rfl) (by repeat (first | exact ⟨_, rfl⟩ | refine drew_class _ _ ?_ | refine drewN_class _ _ _ ?_)) (LidK.out ?_)
          iterate 16 (refine wpRel_guardK (by rfl) (by kernel_rfl) ?_; intro K hK; have hK2 := LidK.mk hK; clear hK; go_big_quiet_step (fail); refine wpQuiet_nil ?_; refine hK2.out _ ?_; clear hK2 K)
          refine LidK.mk (wpRel_nil ?_)
          rintro w3 ⟨m3, rfl⟩
          go_wp2_with fail
          go_ret
          exact ⟨by rw [HE.out]; rfl, (HB.out.trans (HB2.out.mono HB.out.size)).drewN' m3⟩
        · go_wp2_with (first | (go_at_call 52; refine (HIL.out _).mono ?_; rintro e w' ⟨rfl, rfl⟩) | (go_at_call 53; refine (HUV.out _).mono ?_; rintro e w2 ⟨rfl, bel2⟩; have d0 := CP.out _ bel2; have d1 := CN.out _ bel2; clear c0 c1; have HB2 := Lib.hid bel2; clear bel2))
          refine wp_region_rel (fun wd => ∃ nd, wd = w2.drewN nd) (fun _ _ _ => False) (by kernel_rfl) (by kernel_rfl) (by repeat (first | exact ⟨_, rfl⟩ | refine drew_class _ _ ?_ | refine drewN_class _ _ _ ?_)) (LidK.out ?_)
          iterate 16 (refine wpRel_guardK (by rfl) (by kernel_rfl) ?_; intro K hK; have hK2 := LidK.mk hK; clear hK; go_big_quiet_step (fail); refine wpQuiet_nil ?_; refine hK2.out _ ?_; clear hK2 K)
          refine LidK.mk (wpRel_nil ?_)
          rintro w3 ⟨m3, rfl⟩
          go_wp2_with fail
          go_roundw
          case rel => exact ⟨k + 1, by first | rfl | (congr 1; omega), by omega, fun j hj => by
            by_cases hjk : j = k
            · rw [hjk, HK.out, hlex]
            · exact HOK.out j (by omega), (HB.out.trans (HB2.out.mono HB.out.size)).drewN' m3⟩
          case measure => simp [intOf]; omega
    · have HE : Hid ((List.range n).all (okL ls) = true) := Lib.hid (by
        rw [List.all_eq_true]
        exact fun j hj => hok j (by have := List.mem_range.1 hj; omega))
      clear hok hrw
      have hkn : ¬ (k : Int) < (n : Int) := by omega
      go_wp2_with fail
      go_ret
      exact ⟨by rw [HE.out]; rfl, bel⟩

end Go.Proofs.YtmmfjknnbkcniaaGreat
