/- OverWiden: the walk. -/
import Derived.Test.YtoeldcgclaiokaaWideP
import Derived.Test.YtoeldcgclaiokaaEdgesW
namespace Go.Proofs.Ytoeldcgclaiokaa
open Go.Fl Go.Rel Go.RowKit
set_option linter.unusedVariables false
set_option linter.unusedSimpArgs false

theorem cn_mx : cn 9218868437227405311 = mxF := by decide +kernel
theorem cn_mn : cn 18442240474082181119 = mnF := by decide +kernel

set_option maxHeartbeats 8000000 in
set_option maxRecDepth 1000000 in
theorem widen_none (a : Option Addr) (n cap : Nat) (ss : List Smp) (F T N : Int) (w : World) (hr : SRow w a n ss) (hn : n < 5864062014805) (hbad : sndB F T N ss n = false ∨ n < 2) :
    Calls Try.prog 8 #[.agg #[.slice a n cap, .int .i64 F, .int .i64 T, .int .i64 N]] w (BoolB true w) := by
  have HA := Lib.hid (alive_any)
  have hO : extO ss n F T N true false = none := by unfold extO; rw [if_pos (hbad.symm)]
  obtain ⟨w0, hw0⟩ : ∃ w0, w0 = w.alloc (.cells #[.slice a n cap, .int .i64 F, .int .i64 T, .int .i64 N] 30) := ⟨_, rfl⟩
  have HI0 : Hid (Bk.Is w0 w.heap.size (winCells a n cap F T N) 30) := by show Bk.Is _ _ _ _; rw [hw0]; exact Bk.Is.made w _ _
  have HB0 : Hid (Below w.heap.size w w0) := by show Below _ _ _; rw [hw0]; exact (Below.refl _ _).alloc (Nat.le_refl _) _
  have HW0 := Lib.hid hw0
  have HM1 : Hid (∀ W, Below w.heap.size w W → Calls Try.prog 20 #[.agg #[.slice a n cap, .int .i64 F, .int .i64 T, .int .i64 N]] W (BoolB (sndB F T N ss n) W)) := fun W hb => made_any a n cap ss F T N W (hr.below hb) (by omega)
  have HXT : Hid (∀ W, Below w.heap.size w W → Calls Try.prog 16 #[.agg #[.slice a n cap, .int .i64 F, .int .i64 T, .int .i64 N], .bool true, .bool false] W (OptRet none W)) := fun W hb => by
    have := ext_any a n cap ss F T N true false W (hr.below hb)
    rw [hO] at this
    exact this
  have BAD := Lib.hid hbad
  clear hr hw0 hO hbad hn
  cases hs : sndB F T N ss n with
  | false =>
    rw [hs] at HM1
    clear BAD hs
    go_enter Try.func8, Try.ntmps8
    go_wp2_with (first
      | (go_at_call 10; rw [← HW0.out]; ((with_reducible refine (HA.out _).mono ?_); rintro e w1 ⟨rfl, b1⟩; have BX := Lib.hid (HB0.out.trans (b1.mono HB0.out.size)); have J1 := Lib.hid (HI0.out.below b1 HI0.out.lt); obtain ⟨x30, x31, x32, x33⟩ := win_cells J1.out; clear b1))
      | (go_at_call 20; ((with_reducible refine (HM1.out _ BX.out).mono ?_); rintro e w3 ⟨rfl, b3⟩; have BX3 := Lib.hid (BX.out.trans (b3.mono BX.out.size)); obtain ⟨y30, y31, y32, y33⟩ := win_cells (J1.out.below b3 J1.out.lt); clear b3))
      | (go_at_call 16; ((with_reducible refine (HXT.out _ BX3.out).mono ?_); rintro e w6 ⟨rfl, b6⟩)))
    go_ret
    exact ⟨rfl, BX3.out.trans (b6.mono BX3.out.size)⟩
  | true =>
    rw [hs] at HM1
    have h2 : n < 2 := by
      rcases BAD.out with h | h
      · rw [hs] at h; cases h
      · exact h
    have dd : decide ((n : Int) < 2) = true := decide_eq_true (by omega)
    clear BAD hs h2
    go_enter Try.func8, Try.ntmps8
    go_wp2_with (first
      | (go_at_call 10; rw [← HW0.out]; ((with_reducible refine (HA.out _).mono ?_); rintro e w1 ⟨rfl, b1⟩; have BX := Lib.hid (HB0.out.trans (b1.mono HB0.out.size)); have J1 := Lib.hid (HI0.out.below b1 HI0.out.lt); obtain ⟨x30, x31, x32, x33⟩ := win_cells J1.out; clear b1))
      | (go_at_call 20; ((with_reducible refine (HM1.out _ BX.out).mono ?_); rintro e w3 ⟨rfl, b3⟩; have BX3 := Lib.hid (BX.out.trans (b3.mono BX.out.size)); obtain ⟨y30, y31, y32, y33⟩ := win_cells (J1.out.below b3 J1.out.lt); clear b3))
      | (go_at_call 16; ((with_reducible refine (HXT.out _ BX3.out).mono ?_); rintro e w6 ⟨rfl, b6⟩)))
    go_ret
    exact ⟨rfl, BX3.out.trans (b6.mono BX3.out.size)⟩

set_option maxHeartbeats 8000000 in
set_option maxRecDepth 1000000 in
theorem widen_some (a : Option Addr) (m cap : Nat) (ss : List Smp) (F T N : Int) (w : World) (hr : SRow w a (m + 2) ss) (hn : m + 2 < 5864062014805) (hs : sndB F T N ss (m + 2) = true) :
    Calls Try.prog 8 #[.agg #[.slice a (m + 2) cap, .int .i64 F, .int .i64 T, .int .i64 N]] w (BoolB true w) := by
  have HA := Lib.hid (alive_any)
  have HEO : Hid (∀ c, extO ss (m + 2) F T N c false = some (extC (vcs ss) (tS ss) m F T c false)) := fun c => by unfold extO; rw [if_neg (by rw [hs]; simp)]; rfl
  have HP : Hid (∀ (c : Bool) (G V : Nat), G = gC (vcs ss) (m + 2) c → V = extC (vcs ss) (tS ss) m F T c false → _) := fun c G V h1 h2 => wide_plain (by omega) hs c G V h1 h2
  obtain ⟨w0, hw0⟩ : ∃ w0, w0 = w.alloc (.cells #[.slice a (m + 2) cap, .int .i64 F, .int .i64 T, .int .i64 N] 30) := ⟨_, rfl⟩
  have HI0 : Hid (Bk.Is w0 w.heap.size (winCells a (m + 2) cap F T N) 30) := by show Bk.Is _ _ _ _; rw [hw0]; exact Bk.Is.made w _ _
  have HB0 : Hid (Below w.heap.size w w0) := by show Below _ _ _; rw [hw0]; exact (Below.refl _ _).alloc (Nat.le_refl _) _
  have HR := Lib.hid hr
  have HL := Lib.hid hr.1
  have HW0 := Lib.hid hw0
  have HM1 : Hid (∀ W, Below w.heap.size w W → Calls Try.prog 20 #[.agg #[.slice a (m + 2) cap, .int .i64 F, .int .i64 T, .int .i64 N]] W (BoolB true W)) := fun W hb => by rw [← hs]; exact made_any a (m + 2) cap ss F T N W (hr.below hb) (by omega)
  have hlen : (m : Int) + 2 ≤ 5864062014805 := by omega
  have dd : decide ((m : Int) + 2 < 2) = false := decide_eq_false (by omega)
  have hw1 : IntKind.i64.wrap ((m : Int) + 1) = (m : Int) + 1 := by rw [IntKind.wrap_i64]; omega
  have hw2 : IntKind.i64.wrap ((m : Int) + 2 - 1) = (m : Int) + 1 := by rw [IntKind.wrap_i64]; omega
  clear hr hw0 hs hn
  go_enter Try.func8, Try.ntmps8
  go_upto_block 0 with (first
    | (go_at_call 10; rw [← HW0.out]; ((with_reducible refine (HA.out _).mono ?_); rintro e w1 ⟨rfl, b1⟩; have BX := Lib.hid (HB0.out.trans (b1.mono HB0.out.size)); have J1 := Lib.hid (HI0.out.below b1 HI0.out.lt); obtain ⟨x30, x31, x32, x33⟩ := win_cells J1.out; clear b1))
    | (go_at_call 20; ((with_reducible refine (HM1.out _ BX.out).mono ?_); rintro e w3 ⟨rfl, b3⟩; have BX3 := Lib.hid (BX.out.trans (b3.mono BX.out.size)); have J3 := Lib.hid (J1.out.below b3 J1.out.lt); clear b3)))
  clear x30 x31 x32 x33
  have HR3 := Lib.hid (HR.out.below BX3.out)
  obtain ⟨b, off, ha, hcell⟩ := HR3.out.2.2.2 (by omega)
  subst ha
  have HC : Hid (∀ k, k < m + 2 → w3.cell? ⟨b, off + k * 3 + 1, none⟩ = some (.float .f64 (vS ss k))) := fun k hk => (hcell k hk).2.1
  clear hcell
  obtain ⟨v1, hv1⟩ : ∃ q, q = vS ss 0 := ⟨_, rfl⟩
  obtain ⟨v2, hv2⟩ : ∃ q, q = vS ss (m + 1) := ⟨_, rfl⟩
  have HV1 : Hid (at0 (vcs ss) 0 = cn v1) := by show _ = _; rw [at0_vcs ss (by rw [HL.out]; omega), hv1]
  have HV2 : Hid (at0 (vcs ss) (m + 1) = cn v2) := by show _ = _; rw [at0_vcs ss (by rw [HL.out]; omega), hv2]
  have E1 := Lib.hid hv1
  have E2 := Lib.hid hv2
  clear hv1 hv2
  go_wp2_with fail
  go_loopw [6] (ORel 2 w3) (fun vi _ => 2 - (intOf vi).toNat)
  case atStart => exact ⟨0, by omega, rfl, Below.refl _ _⟩
  case round =>
    obtain ⟨k, hk, rfl, bw⟩ := hrel
    have HBW := Lib.hid bw
    obtain ⟨x0, x1, x2, x3⟩ := win_cells (J3.out.below bw J3.out.lt)
    have HX : Hid (∀ k, k < m + 2 → wr.cell? ⟨b, off + k * 3 + 1, none⟩ = some (.float .f64 (vS ss k))) := fun k hk => cell_stay (HC.out k hk) bw
    have e1 : wr.cell? ⟨b, off + 1, none⟩ = some (.float .f64 v1) := by have := HX.out 0 (by omega); rw [Nat.zero_mul, Nat.add_zero] at this; rw [E1.out]; exact this
    have e2 : wr.cell? ⟨b, off + (m + 1) * 3 + 1, none⟩ = some (.float .f64 v2) := by rw [E2.out]; exact HX.out (m + 1) (by omega)
    clear bw
    by_cases hkn : k < 2
    · have hk0 : k = 0 ∨ k = 1 := by omega
      rcases hk0 with hk0 | hk0
      · subst hk0
        have HXT : Hid (∀ W, Below w3.heap.size w3 W → Calls Try.prog 16 #[.agg #[.slice (some ⟨b, off, none⟩) (m + 2) cap, .int .i64 F, .int .i64 T, .int .i64 N], .bool false, .bool false] W (OptRet (some (extC (vcs ss) (tS ss) m F T false false)) W)) := fun W hb => by
          have := ext_any (some ⟨b, off, none⟩) (m + 2) cap ss F T N false false W (HR3.out.below hb)
          rw [HEO.out] at this
          exact this
        have HPL := Lib.hid (HP.out false)
        clear HP HEO
        go_wp2_with fail
        refine wp_region_rel (fun wd => ∃ nd, wd = wr.drewN nd) (fun _ _ _ => False) (by kernel_rfl) (by kernel_rfl) (by repeat (first | exact ⟨_, rfl⟩ | refine drew_class _ _ ?_ | refine drewN_class _ _ _ ?_)) ?_
        repeat (first | (refine wpRel_fop _ _ _ _ _ _ _ rfl rfl rfl rfl (drewN_class wr) ?_; intro r hr; go_big_quiet_step (fail); refine wpQuiet_nil ?_) | (refine wpRel_quiet rfl ?_; go_big_quiet_step (fail); refine wpQuiet_nil ?_))
        refine wpRel_nil ?_
        rintro wz ⟨n1, rfl⟩
        have Hr9 := Lib.hid hr
        clear hr
        go_upto_block 2 with fail
        go_cut [7] (fun s7 wy => GCut (gC (vcs ss) (m + 2) false) wr s7 wy)
        case first =>
          go_wp2_with fail
          go_loopw [7, 8] (GRel (vcs ss) (m + 2) false wr) (fun _ vi _ => m + 3 - (intOf vi).toNat)
          case atStart => exact ⟨0, n1, r, rfl, rfl, by rw [Hr9.out, fop_sub]; show _ = fsub (at0 (vcs ss) (m + 1)) _; rw [HV1.out, HV2.out], by omega, rfl, fun _ => rfl⟩
          case round =>
            obtain ⟨j, nd, q, rfl, rfl, hq, hj, rfl, hcj⟩ := hrel
            have HQ := Lib.hid hq
            clear hq
            have hj0 := hcj rfl
            subst hj0
            have d1 : decide ((1 : Int) < (m : Int) + 2) = true := decide_eq_true (by omega)
            go_wp2_with fail
            go_meet
            exact ⟨q, nd, rfl, by rw [HQ.out]; rfl, rfl⟩
        case rest =>
          obtain ⟨wy, hwy⟩ : ∃ wx, wx = wc := ⟨_, rfl⟩
          subst hwy
          obtain ⟨g, ng, rfl, hg, rfl⟩ := hcut
          have HG := Lib.hid hg
          clear hg
          go_upto_region 17 with (go_at_call 16; ((with_reducible refine (HXT.out _ (HBW.out.drewN' _)).mono ?_); rintro e w6 ⟨v, rfl, hv, b6⟩; have B6 := Lib.hid ((HBW.out.drewN' ng).trans (b6.mono (HBW.out.drewN' ng).size)); have HV := Lib.hid hv; clear b6 hv))
          obtain ⟨P1, P2, P3⟩ := HPL.out (cn g) (cn v) HG.out HV.out
          have o1 : (FloatKind.f64.format.order g 0 == some Ordering.gt) = (ford (cn g) 0 == some .gt) := by rw [order_cn, cn_zero]
          have o4 : (FloatKind.f64.format.order g 0 == some Ordering.eq) = (ford (cn g) 0 == some .eq) := by rw [order_cn, cn_zero]
          have o6 : (FloatKind.f64.format.order g 0 == some Ordering.lt) = (ford (cn g) 0 == some .lt) := by rw [order_cn, cn_zero]
          have o2 : (FloatKind.f64.format.order g 9218868437227405311 == some Ordering.lt || FloatKind.f64.format.order g 9218868437227405311 == some Ordering.eq) = (ford (cn g) mxF == some .lt || ford (cn g) mxF == some .eq) := by rw [order_cn, cn_mx]
          have o7 : (FloatKind.f64.format.order g 18442240474082181119 == some Ordering.gt || FloatKind.f64.format.order g 18442240474082181119 == some Ordering.eq) = (ford (cn g) mnF == some .gt || ford (cn g) mnF == some .eq) := by rw [order_cn, cn_mn]
          have o3 : (FloatKind.f64.format.order v g == some Ordering.gt || FloatKind.f64.format.order v g == some Ordering.eq) = (ford (cn v) (cn g) == some .gt || ford (cn v) (cn g) == some .eq) := by rw [order_cn]
          have o8 : (FloatKind.f64.format.order v g == some Ordering.lt || FloatKind.f64.format.order v g == some Ordering.eq) = (ford (cn v) (cn g) == some .lt || ford (cn v) (cn g) == some .eq) := by rw [order_cn]
          have o5 : (FloatKind.f64.format.order v 0 != some Ordering.eq) = !(ford (cn v) 0 == some .eq) := by rw [order_cn, cn_zero]; rfl
          obtain ⟨q1, h1⟩ : ∃ q, q = (ford (cn g) 0 == some .gt) := ⟨_, rfl⟩
          obtain ⟨q4, h4⟩ : ∃ q, q = (ford (cn g) 0 == some .eq) := ⟨_, rfl⟩
          obtain ⟨q6, h6⟩ : ∃ q, q = (ford (cn g) 0 == some .lt) := ⟨_, rfl⟩
          obtain ⟨q2, h2⟩ : ∃ q, q = (ford (cn g) mxF == some .lt || ford (cn g) mxF == some .eq) := ⟨_, rfl⟩
          obtain ⟨q7, h7⟩ : ∃ q, q = (ford (cn g) mnF == some .gt || ford (cn g) mnF == some .eq) := ⟨_, rfl⟩
          obtain ⟨q3, h3⟩ : ∃ q, q = (ford (cn v) (cn g) == some .gt || ford (cn v) (cn g) == some .eq) := ⟨_, rfl⟩
          obtain ⟨q8, h8⟩ : ∃ q, q = (ford (cn v) (cn g) == some .lt || ford (cn v) (cn g) == some .eq) := ⟨_, rfl⟩
          obtain ⟨q5, h5⟩ : ∃ q, q = (ford (cn v) 0 == some .eq) := ⟨_, rfl⟩
          rw [← h1] at o1 P1
          rw [← h4] at o4 P2
          rw [← h6] at o6 P3
          rw [← h2] at o2 P1
          rw [← h7] at o7 P3
          rw [← h3] at o3 P1
          rw [← h8] at o8 P3
          rw [← h5] at o5 P2
          clear h1 h2 h3 h4 h5 h6 h7 h8
          have G1 : q1 = false ∨ (q1 = true ∧ q2 = false) ∨ (q1 = true ∧ q2 = true ∧ q3 = true) := by
            cases q1 with
            | false => exact .inl rfl
            | true =>
              cases q2 with
              | false => exact .inr (.inl ⟨rfl, rfl⟩)
              | true => exact .inr (.inr ⟨rfl, rfl, P1 rfl rfl⟩)
          have G2 : q4 = false ∨ (q4 = true ∧ q5 = true) := by
            cases q4 with
            | false => exact .inl rfl
            | true => exact .inr ⟨rfl, P2 rfl⟩
          have G3 : q6 = false ∨ (q6 = true ∧ q7 = false) ∨ (q6 = true ∧ q7 = true ∧ q8 = true) := by
            cases q6 with
            | false => exact .inl rfl
            | true =>
              cases q7 with
              | false => exact .inr (.inl ⟨rfl, rfl⟩)
              | true => exact .inr (.inr ⟨rfl, rfl, P3 rfl rfl⟩)
          clear P1 P2 P3
          rcases G1 with rfl | ⟨rfl, rfl⟩ | ⟨rfl, rfl, rfl⟩ <;> rcases G2 with rfl | ⟨rfl, rfl⟩ <;> rcases G3 with rfl | ⟨rfl, rfl⟩ | ⟨rfl, rfl, rfl⟩
          all_goals
            try simp only [Bool.not_true, Bool.not_false] at o5
            go_wp2_with fail
            go_roundw
            case rel => exact ⟨1, by omega, by go_num, B6.out⟩
            case measure => simp [intOf]
      · subst hk0
        have HXT : Hid (∀ W, Below w3.heap.size w3 W → Calls Try.prog 16 #[.agg #[.slice (some ⟨b, off, none⟩) (m + 2) cap, .int .i64 F, .int .i64 T, .int .i64 N], .bool true, .bool false] W (OptRet (some (extC (vcs ss) (tS ss) m F T true false)) W)) := fun W hb => by
          have := ext_any (some ⟨b, off, none⟩) (m + 2) cap ss F T N true false W (HR3.out.below hb)
          rw [HEO.out] at this
          exact this
        have HPL := Lib.hid (HP.out true)
        clear HP HEO
        go_wp2_with fail
        refine wp_region_rel (fun wd => ∃ nd, wd = wr.drewN nd) (fun _ _ _ => False) (by kernel_rfl) (by kernel_rfl) (by repeat (first | exact ⟨_, rfl⟩ | refine drew_class _ _ ?_ | refine drewN_class _ _ _ ?_)) ?_
        repeat (first | (refine wpRel_fop _ _ _ _ _ _ _ rfl rfl rfl rfl (drewN_class wr) ?_; intro r hr; go_big_quiet_step (fail); refine wpQuiet_nil ?_) | (refine wpRel_quiet rfl ?_; go_big_quiet_step (fail); refine wpQuiet_nil ?_))
        refine wpRel_nil ?_
        rintro wz ⟨n1, rfl⟩
        have Hr9 := Lib.hid hr
        clear hr
        go_upto_block 2 with fail
        go_cut [7] (fun s7 wy => GCut (gC (vcs ss) (m + 2) true) wr s7 wy)
        case first =>
          go_wp2_with fail
          go_loopw [7, 8] (GRel (vcs ss) (m + 2) true wr) (fun _ vi _ => m + 3 - (intOf vi).toNat)
          case atStart => exact ⟨0, n1, r, rfl, rfl, by rw [Hr9.out, fop_sub]; show _ = fsub (at0 (vcs ss) (m + 1)) _; rw [HV1.out, HV2.out], by omega, rfl, fun _ => rfl⟩
          case round =>
            obtain ⟨j, nd, q, rfl, rfl, hq, hj, rfl, hcj⟩ := hrel
            have HQ := Lib.hid hq
            clear hq
            clear hcj
            by_cases hlt : j + 1 < m + 2
            · have hlt2 : (j : Int) + 1 < (m : Int) + 2 := by omega
              have c1 := HX.out j (by omega)
              have c2 := HX.out (j + 1) hlt
              have hwk : IntKind.i64.wrap ((j : Int) + 1 - 1) = (j : Int) := by rw [IntKind.wrap_i64]; omega
              have HVA : Hid (at0 (vcs ss) j = cn (vS ss j)) := at0_vcs ss (by rw [HL.out]; omega)
              have HVB : Hid (at0 (vcs ss) (j + 1) = cn (vS ss (j + 1))) := at0_vcs ss (by rw [HL.out]; omega)
              obtain ⟨u, hu⟩ : ∃ q, q = vS ss j := ⟨_, rfl⟩
              obtain ⟨v, hv⟩ : ∃ q, q = vS ss (j + 1) := ⟨_, rfl⟩
              rw [← hu] at c1 HVA
              rw [← hv] at c2 HVB
              clear hu hv
              cases hl : flt (cn v) (cn u) with
              | true =>
                have ho : (FloatKind.f64.format.order v u == some Ordering.lt) = true := by rw [order_cn]; exact hl
                have HLT := Lib.hid hl
                clear hl
                go_wp2_with fail
                go_quiet (fail)
                go_wp2_with (refine wpList_fop _ _ _ _ _ _ _ rfl rfl rfl ?_; intro r2 nq2 hr2; have Hr2 := Lib.hid hr2; clear hr2)
                go_roundw
                case rel => exact ⟨j + 1, _, r2, by rw [show (((j + 1 : Nat) : Int) + 1) = (j : Int) + 1 + 1 by omega], rfl, by rw [Hr2.out, fop_add, HQ.out]; show _ = if flt (at0 (vcs ss) (j + 1)) (at0 (vcs ss) j) = true then _ else _; rw [HVA.out, HVB.out, if_pos HLT.out], by omega, by first | rfl | exact World.drewN_drewN .. | exact dr3 _ _ _ _ | exact dr4 _ _ _ _ _, fun h => by cases h⟩
                case measure => simp [intOf]; omega
              | false =>
                have ho : (FloatKind.f64.format.order v u == some Ordering.lt) = false := by rw [order_cn]; exact hl
                have HLT := Lib.hid hl
                clear hl
                go_wp2_with fail
                go_quiet (fail)
                go_wp2_with fail
                go_roundw
                case rel => exact ⟨j + 1, _, q, by rw [show (((j + 1 : Nat) : Int) + 1) = (j : Int) + 1 + 1 by omega], rfl, by rw [HQ.out]; show _ = if flt (at0 (vcs ss) (j + 1)) (at0 (vcs ss) j) = true then _ else _; rw [HVA.out, HVB.out, if_neg (by rw [HLT.out]; simp)], by omega, by first | rfl | exact World.drewN_drewN .. | exact dr3 _ _ _ _ | exact dr4 _ _ _ _ _, fun h => by cases h⟩
                case measure => simp [intOf]; omega
            · have hk2 : j + 1 = m + 2 := by omega
              obtain rfl : j = m + 1 := by omega
              clear hk2 hlt hj hlen dd hw1 hw2
              go_wp2_with fail
              go_meet
              exact gcut_true HQ.out
        case rest =>
          obtain ⟨wy, hwy⟩ : ∃ wx, wx = wc := ⟨_, rfl⟩
          subst hwy
          obtain ⟨g, ng, rfl, hg, rfl⟩ := hcut
          have HG := Lib.hid hg
          clear hg
          go_upto_region 17 with (go_at_call 16; ((with_reducible refine (HXT.out _ (HBW.out.drewN' _)).mono ?_); rintro e w6 ⟨v, rfl, hv, b6⟩; have B6 := Lib.hid ((HBW.out.drewN' ng).trans (b6.mono (HBW.out.drewN' ng).size)); have HV := Lib.hid hv; clear b6 hv))
          obtain ⟨P1, P2, P3⟩ := HPL.out (cn g) (cn v) HG.out HV.out
          have o1 : (FloatKind.f64.format.order g 0 == some Ordering.gt) = (ford (cn g) 0 == some .gt) := by rw [order_cn, cn_zero]
          have o4 : (FloatKind.f64.format.order g 0 == some Ordering.eq) = (ford (cn g) 0 == some .eq) := by rw [order_cn, cn_zero]
          have o6 : (FloatKind.f64.format.order g 0 == some Ordering.lt) = (ford (cn g) 0 == some .lt) := by rw [order_cn, cn_zero]
          have o2 : (FloatKind.f64.format.order g 9218868437227405311 == some Ordering.lt || FloatKind.f64.format.order g 9218868437227405311 == some Ordering.eq) = (ford (cn g) mxF == some .lt || ford (cn g) mxF == some .eq) := by rw [order_cn, cn_mx]
          have o7 : (FloatKind.f64.format.order g 18442240474082181119 == some Ordering.gt || FloatKind.f64.format.order g 18442240474082181119 == some Ordering.eq) = (ford (cn g) mnF == some .gt || ford (cn g) mnF == some .eq) := by rw [order_cn, cn_mn]
          have o3 : (FloatKind.f64.format.order v g == some Ordering.gt || FloatKind.f64.format.order v g == some Ordering.eq) = (ford (cn v) (cn g) == some .gt || ford (cn v) (cn g) == some .eq) := by rw [order_cn]
          have o8 : (FloatKind.f64.format.order v g == some Ordering.lt || FloatKind.f64.format.order v g == some Ordering.eq) = (ford (cn v) (cn g) == some .lt || ford (cn v) (cn g) == some .eq) := by rw [order_cn]
          have o5 : (FloatKind.f64.format.order v 0 != some Ordering.eq) = !(ford (cn v) 0 == some .eq) := by rw [order_cn, cn_zero]; rfl
          obtain ⟨q1, h1⟩ : ∃ q, q = (ford (cn g) 0 == some .gt) := ⟨_, rfl⟩
          obtain ⟨q4, h4⟩ : ∃ q, q = (ford (cn g) 0 == some .eq) := ⟨_, rfl⟩
          obtain ⟨q6, h6⟩ : ∃ q, q = (ford (cn g) 0 == some .lt) := ⟨_, rfl⟩
          obtain ⟨q2, h2⟩ : ∃ q, q = (ford (cn g) mxF == some .lt || ford (cn g) mxF == some .eq) := ⟨_, rfl⟩
          obtain ⟨q7, h7⟩ : ∃ q, q = (ford (cn g) mnF == some .gt || ford (cn g) mnF == some .eq) := ⟨_, rfl⟩
          obtain ⟨q3, h3⟩ : ∃ q, q = (ford (cn v) (cn g) == some .gt || ford (cn v) (cn g) == some .eq) := ⟨_, rfl⟩
          obtain ⟨q8, h8⟩ : ∃ q, q = (ford (cn v) (cn g) == some .lt || ford (cn v) (cn g) == some .eq) := ⟨_, rfl⟩
          obtain ⟨q5, h5⟩ : ∃ q, q = (ford (cn v) 0 == some .eq) := ⟨_, rfl⟩
          rw [← h1] at o1 P1
          rw [← h4] at o4 P2
          rw [← h6] at o6 P3
          rw [← h2] at o2 P1
          rw [← h7] at o7 P3
          rw [← h3] at o3 P1
          rw [← h8] at o8 P3
          rw [← h5] at o5 P2
          clear h1 h2 h3 h4 h5 h6 h7 h8
          have G1 : q1 = false ∨ (q1 = true ∧ q2 = false) ∨ (q1 = true ∧ q2 = true ∧ q3 = true) := by
            cases q1 with
            | false => exact .inl rfl
            | true =>
              cases q2 with
              | false => exact .inr (.inl ⟨rfl, rfl⟩)
              | true => exact .inr (.inr ⟨rfl, rfl, P1 rfl rfl⟩)
          have G2 : q4 = false ∨ (q4 = true ∧ q5 = true) := by
            cases q4 with
            | false => exact .inl rfl
            | true => exact .inr ⟨rfl, P2 rfl⟩
          have G3 : q6 = false ∨ (q6 = true ∧ q7 = false) ∨ (q6 = true ∧ q7 = true ∧ q8 = true) := by
            cases q6 with
            | false => exact .inl rfl
            | true =>
              cases q7 with
              | false => exact .inr (.inl ⟨rfl, rfl⟩)
              | true => exact .inr (.inr ⟨rfl, rfl, P3 rfl rfl⟩)
          clear P1 P2 P3
          rcases G1 with rfl | ⟨rfl, rfl⟩ | ⟨rfl, rfl, rfl⟩ <;> rcases G2 with rfl | ⟨rfl, rfl⟩ <;> rcases G3 with rfl | ⟨rfl, rfl⟩ | ⟨rfl, rfl, rfl⟩
          all_goals
            try simp only [Bool.not_true, Bool.not_false] at o5
            go_wp2_with fail
            go_roundw
            case rel => exact ⟨2, by omega, by go_num, B6.out⟩
            case measure => simp [intOf]
    · obtain rfl : k = 2 := by omega
      go_wp2_with fail
      go_ret
      exact ⟨rfl, BX3.out.trans (HBW.out.mono BX3.out.size)⟩

theorem law_widen (a : Option Addr) (n cap : Nat) (ss : List Smp) (F T N : Int) (w : World) (hr : SRow w a n ss) (hn : n < 5864062014805) :
    Calls Try.prog 8 #[.agg #[.slice a n cap, .int .i64 F, .int .i64 T, .int .i64 N]] w (BoolB true w) := by
  by_cases h2 : n < 2
  · exact widen_none a n cap ss F T N w hr hn (.inr h2)
  · cases hs : sndB F T N ss n with
    | false => exact widen_none a n cap ss F T N w hr hn (.inl hs)
    | true =>
      obtain ⟨m, rfl⟩ : ∃ m, n = m + 2 := ⟨n - 2, by omega⟩
      exact widen_some a m cap ss F T N w hr hn hs
end Go.Proofs.Ytoeldcgclaiokaa
