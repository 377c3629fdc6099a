/- OverRates: the walk. -/
import Derived.Test.YtoeldcgclaiokaaRInstA
import Derived.Test.YtoeldcgclaiokaaEdgesW
namespace Go.Proofs.Ytoeldcgclaiokaa
open Go.Fl Go.Rel Go.RowKit
set_option linter.unusedVariables false
set_option linter.unusedSimpArgs false

set_option maxHeartbeats 8000000 in
set_option maxRecDepth 100000 in
theorem law_rates (a : Option Addr) (n cap : Nat) (ss : List Smp) (F T N : Int) (w : World) (hr : SRow w a n ss) (hn : n < 5864062014805) :
    Calls Try.prog 4 #[.agg #[.slice a n cap, .int .i64 F, .int .i64 T, .int .i64 N]] w (BoolB true w) := by
  have HA := Lib.hid (alive_any)
  obtain ⟨w0, hw0⟩ : ∃ w0, w0 = w.alloc (.cells #[.slice a n cap, .int .i64 F, .int .i64 T, .int .i64 N] 30) := ⟨_, rfl⟩
  have HI0 : Hid (Bk.Is w0 w.heap.size (winCells a n cap F T N) 30) := by show Bk.Is _ _ _ _; rw [hw0]; exact Bk.Is.made w _ _
  have HB0 : Hid (Below w.heap.size w w0) := by show Below _ _ _; rw [hw0]; exact (Below.refl _ _).alloc (Nat.le_refl _) _
  have HR := Lib.hid hr
  have HN : Hid (n < 17592186044416) := by show n < _; omega
  have HW0 := Lib.hid hw0
  clear hr hw0 hn
  go_enter Try.func4, Try.ntmps4
  go_wp2_with (go_at_call 10; rw [← HW0.out]; ((with_reducible refine (HA.out _).mono ?_); rintro e w1 ⟨rfl, b1⟩; have BX := Lib.hid (HB0.out.trans (b1.mono HB0.out.size)); have I1 := Lib.hid (HI0.out.below b1 HI0.out.lt); clear b1))
  have HR1 := Lib.hid (HR.out.below BX.out)
  go_loopw [3] (ORel 4 w1) (fun vi _ => 4 - (intOf vi).toNat)
  case atStart => exact ⟨0, by omega, rfl, Below.refl _ _⟩
  case round =>
    obtain ⟨k, hk, rfl, bw⟩ := hrel
    have HBW := Lib.hid bw
    obtain ⟨x0, x1, x2, x3⟩ := win_cells (I1.out.below bw I1.out.lt)
    clear bw
    by_cases hkn : k < 4
    · have hk0 : k = 0 ∨ k = 1 ∨ k = 2 ∨ k = 3 := by omega
      rcases hk0 with hk0 | hk0 | hk0 | hk0
      · subst hk0
        have g1 : (bits BinOp.and IntKind.i64 0 1 == 1) = false := by decide +kernel
        have g2 : (bits BinOp.and IntKind.i64 0 2 == 2) = false := by decide +kernel
        have HP : Hid (∀ W, Below w1.heap.size w1 W → Calls Try.prog 16 #[.agg #[.slice a n cap, .int .i64 F, .int .i64 T, .int .i64 N], .bool false, .bool false] W (OptRet (extO ss n F T N false false) W)) := fun W hb => ext_any a n cap ss F T N false false W (HR1.out.below hb)
        have HQ : Hid (∀ W, Below w1.heap.size w1 W → Calls Try.prog 15 #[.agg #[.slice a n cap, .int .i64 F, .int .i64 T, .int .i64 N], .bool false, .bool false] W (OptRet (extO ss n F T N false false) W)) := fun W hb => rext_any a n cap ss F T N false false W (HR1.out.below hb) HN.out
        obtain ⟨o, ho⟩ : ∃ o, o = extO ss n F T N false false := ⟨_, rfl⟩
        rw [← ho] at HP HQ
        clear ho
        cases o with
        | none =>
          go_wp2_with (first
            | (go_at_call 15; ((with_reducible refine (HQ.out _ HBW.out).mono ?_); rintro e w5 ⟨rfl, b5⟩; have B5 := Lib.hid (HBW.out.trans (b5.mono HBW.out.size)); obtain ⟨y0, y1, y2, y3⟩ := win_cells ((I1.out.below HBW.out I1.out.lt).below b5 (I1.out.below HBW.out I1.out.lt).lt); clear b5))
            | (go_at_call 16; ((with_reducible refine (HP.out _ B5.out).mono ?_); rintro e w6 ⟨rfl, b6⟩; have B6 := Lib.hid (B5.out.trans (b6.mono B5.out.size)); clear b6; have HSM := same_z))
            | (go_at_call 17; ((with_reducible refine (same_any _ _ _).mono ?_); rintro e w8 ⟨rfl, rfl⟩; rw [HSM])))
          go_roundw
          case rel => exact ⟨1, by omega, by go_num, B6.out⟩
          case measure => simp [intOf]
        | some c =>
          go_wp2_with (first
            | (go_at_call 15; ((with_reducible refine (HQ.out _ HBW.out).mono ?_); rintro e w5 ⟨r, rfl, hr1, b5⟩; have B5 := Lib.hid (HBW.out.trans (b5.mono HBW.out.size)); obtain ⟨y0, y1, y2, y3⟩ := win_cells ((I1.out.below HBW.out I1.out.lt).below b5 (I1.out.below HBW.out I1.out.lt).lt); clear b5))
            | (go_at_call 16; ((with_reducible refine (HP.out _ B5.out).mono ?_); rintro e w6 ⟨r2, rfl, hr2, b6⟩; have B6 := Lib.hid (B5.out.trans (b6.mono B5.out.size)); clear b6; have HSM : (cn r2 == cn r) = true := by (rw [hr1, hr2]; simp)))
            | (go_at_call 17; ((with_reducible refine (same_any _ _ _).mono ?_); rintro e w8 ⟨rfl, rfl⟩; rw [HSM])))
          go_roundw
          case rel => exact ⟨1, by omega, by go_num, B6.out⟩
          case measure => simp [intOf]
      · subst hk0
        have g1 : (bits BinOp.and IntKind.i64 1 1 == 1) = true := by decide +kernel
        have g2 : (bits BinOp.and IntKind.i64 1 2 == 2) = false := by decide +kernel
        have HP : Hid (∀ W, Below w1.heap.size w1 W → Calls Try.prog 16 #[.agg #[.slice a n cap, .int .i64 F, .int .i64 T, .int .i64 N], .bool true, .bool false] W (OptRet (extO ss n F T N true false) W)) := fun W hb => ext_any a n cap ss F T N true false W (HR1.out.below hb)
        have HQ : Hid (∀ W, Below w1.heap.size w1 W → Calls Try.prog 15 #[.agg #[.slice a n cap, .int .i64 F, .int .i64 T, .int .i64 N], .bool true, .bool false] W (OptRet (extO ss n F T N true false) W)) := fun W hb => rext_any a n cap ss F T N true false W (HR1.out.below hb) HN.out
        obtain ⟨o, ho⟩ : ∃ o, o = extO ss n F T N true false := ⟨_, rfl⟩
        rw [← ho] at HP HQ
        clear ho
        cases o with
        | none =>
          go_wp2_with (first
            | (go_at_call 15; ((with_reducible refine (HQ.out _ HBW.out).mono ?_); rintro e w5 ⟨rfl, b5⟩; have B5 := Lib.hid (HBW.out.trans (b5.mono HBW.out.size)); obtain ⟨y0, y1, y2, y3⟩ := win_cells ((I1.out.below HBW.out I1.out.lt).below b5 (I1.out.below HBW.out I1.out.lt).lt); clear b5))
            | (go_at_call 16; ((with_reducible refine (HP.out _ B5.out).mono ?_); rintro e w6 ⟨rfl, b6⟩; have B6 := Lib.hid (B5.out.trans (b6.mono B5.out.size)); clear b6; have HSM := same_z))
            | (go_at_call 17; ((with_reducible refine (same_any _ _ _).mono ?_); rintro e w8 ⟨rfl, rfl⟩; rw [HSM])))
          go_roundw
          case rel => exact ⟨2, by omega, by go_num, B6.out⟩
          case measure => simp [intOf]
        | some c =>
          go_wp2_with (first
            | (go_at_call 15; ((with_reducible refine (HQ.out _ HBW.out).mono ?_); rintro e w5 ⟨r, rfl, hr1, b5⟩; have B5 := Lib.hid (HBW.out.trans (b5.mono HBW.out.size)); obtain ⟨y0, y1, y2, y3⟩ := win_cells ((I1.out.below HBW.out I1.out.lt).below b5 (I1.out.below HBW.out I1.out.lt).lt); clear b5))
            | (go_at_call 16; ((with_reducible refine (HP.out _ B5.out).mono ?_); rintro e w6 ⟨r2, rfl, hr2, b6⟩; have B6 := Lib.hid (B5.out.trans (b6.mono B5.out.size)); clear b6; have HSM : (cn r2 == cn r) = true := by (rw [hr1, hr2]; simp)))
            | (go_at_call 17; ((with_reducible refine (same_any _ _ _).mono ?_); rintro e w8 ⟨rfl, rfl⟩; rw [HSM])))
          go_roundw
          case rel => exact ⟨2, by omega, by go_num, B6.out⟩
          case measure => simp [intOf]
      · subst hk0
        have g1 : (bits BinOp.and IntKind.i64 2 1 == 1) = false := by decide +kernel
        have g2 : (bits BinOp.and IntKind.i64 2 2 == 2) = true := by decide +kernel
        have HP : Hid (∀ W, Below w1.heap.size w1 W → Calls Try.prog 16 #[.agg #[.slice a n cap, .int .i64 F, .int .i64 T, .int .i64 N], .bool false, .bool true] W (OptRet (extO ss n F T N false true) W)) := fun W hb => ext_any a n cap ss F T N false true W (HR1.out.below hb)
        have HQ : Hid (∀ W, Below w1.heap.size w1 W → Calls Try.prog 15 #[.agg #[.slice a n cap, .int .i64 F, .int .i64 T, .int .i64 N], .bool false, .bool true] W (OptRet (extO ss n F T N false true) W)) := fun W hb => rext_any a n cap ss F T N false true W (HR1.out.below hb) HN.out
        obtain ⟨o, ho⟩ : ∃ o, o = extO ss n F T N false true := ⟨_, rfl⟩
        rw [← ho] at HP HQ
        clear ho
        cases o with
        | none =>
          go_wp2_with (first
            | (go_at_call 15; ((with_reducible refine (HQ.out _ HBW.out).mono ?_); rintro e w5 ⟨rfl, b5⟩; have B5 := Lib.hid (HBW.out.trans (b5.mono HBW.out.size)); obtain ⟨y0, y1, y2, y3⟩ := win_cells ((I1.out.below HBW.out I1.out.lt).below b5 (I1.out.below HBW.out I1.out.lt).lt); clear b5))
            | (go_at_call 16; ((with_reducible refine (HP.out _ B5.out).mono ?_); rintro e w6 ⟨rfl, b6⟩; have B6 := Lib.hid (B5.out.trans (b6.mono B5.out.size)); clear b6; have HSM := same_z))
            | (go_at_call 17; ((with_reducible refine (same_any _ _ _).mono ?_); rintro e w8 ⟨rfl, rfl⟩; rw [HSM])))
          go_roundw
          case rel => exact ⟨3, by omega, by go_num, B6.out⟩
          case measure => simp [intOf]
        | some c =>
          go_wp2_with (first
            | (go_at_call 15; ((with_reducible refine (HQ.out _ HBW.out).mono ?_); rintro e w5 ⟨r, rfl, hr1, b5⟩; have B5 := Lib.hid (HBW.out.trans (b5.mono HBW.out.size)); obtain ⟨y0, y1, y2, y3⟩ := win_cells ((I1.out.below HBW.out I1.out.lt).below b5 (I1.out.below HBW.out I1.out.lt).lt); clear b5))
            | (go_at_call 16; ((with_reducible refine (HP.out _ B5.out).mono ?_); rintro e w6 ⟨r2, rfl, hr2, b6⟩; have B6 := Lib.hid (B5.out.trans (b6.mono B5.out.size)); clear b6; have HSM : (cn r2 == cn r) = true := by (rw [hr1, hr2]; simp)))
            | (go_at_call 17; ((with_reducible refine (same_any _ _ _).mono ?_); rintro e w8 ⟨rfl, rfl⟩; rw [HSM])))
          go_roundw
          case rel => exact ⟨3, by omega, by go_num, B6.out⟩
          case measure => simp [intOf]
      · subst hk0
        have g1 : (bits BinOp.and IntKind.i64 3 1 == 1) = true := by decide +kernel
        have g2 : (bits BinOp.and IntKind.i64 3 2 == 2) = true := by decide +kernel
        have HP : Hid (∀ W, Below w1.heap.size w1 W → Calls Try.prog 16 #[.agg #[.slice a n cap, .int .i64 F, .int .i64 T, .int .i64 N], .bool true, .bool true] W (OptRet (extO ss n F T N true true) W)) := fun W hb => ext_any a n cap ss F T N true true W (HR1.out.below hb)
        have HQ : Hid (∀ W, Below w1.heap.size w1 W → Calls Try.prog 15 #[.agg #[.slice a n cap, .int .i64 F, .int .i64 T, .int .i64 N], .bool true, .bool true] W (OptRet (extO ss n F T N true true) W)) := fun W hb => rext_any a n cap ss F T N true true W (HR1.out.below hb) HN.out
        obtain ⟨o, ho⟩ : ∃ o, o = extO ss n F T N true true := ⟨_, rfl⟩
        rw [← ho] at HP HQ
        clear ho
        cases o with
        | none =>
          go_wp2_with (first
            | (go_at_call 15; ((with_reducible refine (HQ.out _ HBW.out).mono ?_); rintro e w5 ⟨rfl, b5⟩; have B5 := Lib.hid (HBW.out.trans (b5.mono HBW.out.size)); obtain ⟨y0, y1, y2, y3⟩ := win_cells ((I1.out.below HBW.out I1.out.lt).below b5 (I1.out.below HBW.out I1.out.lt).lt); clear b5))
            | (go_at_call 16; ((with_reducible refine (HP.out _ B5.out).mono ?_); rintro e w6 ⟨rfl, b6⟩; have B6 := Lib.hid (B5.out.trans (b6.mono B5.out.size)); clear b6; have HSM := same_z))
            | (go_at_call 17; ((with_reducible refine (same_any _ _ _).mono ?_); rintro e w8 ⟨rfl, rfl⟩; rw [HSM])))
          go_roundw
          case rel => exact ⟨4, by omega, by go_num, B6.out⟩
          case measure => simp [intOf]
        | some c =>
          go_wp2_with (first
            | (go_at_call 15; ((with_reducible refine (HQ.out _ HBW.out).mono ?_); rintro e w5 ⟨r, rfl, hr1, b5⟩; have B5 := Lib.hid (HBW.out.trans (b5.mono HBW.out.size)); obtain ⟨y0, y1, y2, y3⟩ := win_cells ((I1.out.below HBW.out I1.out.lt).below b5 (I1.out.below HBW.out I1.out.lt).lt); clear b5))
            | (go_at_call 16; ((with_reducible refine (HP.out _ B5.out).mono ?_); rintro e w6 ⟨r2, rfl, hr2, b6⟩; have B6 := Lib.hid (B5.out.trans (b6.mono B5.out.size)); clear b6; have HSM : (cn r2 == cn r) = true := by (rw [hr1, hr2]; simp)))
            | (go_at_call 17; ((with_reducible refine (same_any _ _ _).mono ?_); rintro e w8 ⟨rfl, rfl⟩; rw [HSM])))
          go_roundw
          case rel => exact ⟨4, by omega, by go_num, B6.out⟩
          case measure => simp [intOf]
    · have dk3 : decide ((k : Int) < 4) = false := decide_eq_false (by omega)
      have HX := HBW
      clear HBW x0 x1 x2 x3 hkn hk
      go_wp2_with fail
      go_loopw [8] (ORel 2 w1) (fun vi _ => 2 - (intOf vi).toNat)
      case atStart => exact ⟨0, by omega, rfl, HX.out⟩
      case round =>
        obtain ⟨k, hk, rfl, bw⟩ := hrel
        have HBW := Lib.hid bw
        obtain ⟨x0, x1, x2, x3⟩ := win_cells (I1.out.below bw I1.out.lt)
        clear bw
        by_cases hkn : k < 2
        · have hk0 : k = 0 ∨ k = 1 := by omega
          rcases hk0 with hk0 | hk0
          · subst hk0
            have HP : Hid (∀ W, Below w1.heap.size w1 W → Calls Try.prog 19 #[.agg #[.slice a n cap, .int .i64 F, .int .i64 T, .int .i64 N], .bool false] W (OptRet (instO ss n F T N false) W)) := fun W hb => inst_any a n cap ss F T N false W (HR1.out.below hb)
            have HQ : Hid (∀ W, Below w1.heap.size w1 W → Calls Try.prog 18 #[.agg #[.slice a n cap, .int .i64 F, .int .i64 T, .int .i64 N], .bool false] W (OptRet (instO ss n F T N false) W)) := fun W hb => rinst_any a n cap ss F T N false W (HR1.out.below hb) HN.out
            obtain ⟨o, ho⟩ : ∃ o, o = instO ss n F T N false := ⟨_, rfl⟩
            rw [← ho] at HP HQ
            clear ho
            cases o with
            | none =>
              go_wp2_with (first
                | (go_at_call 18; ((with_reducible refine (HQ.out _ HBW.out).mono ?_); rintro e w5 ⟨rfl, b5⟩; have B5 := Lib.hid (HBW.out.trans (b5.mono HBW.out.size)); obtain ⟨y0, y1, y2, y3⟩ := win_cells ((I1.out.below HBW.out I1.out.lt).below b5 (I1.out.below HBW.out I1.out.lt).lt); clear b5))
                | (go_at_call 19; ((with_reducible refine (HP.out _ B5.out).mono ?_); rintro e w6 ⟨rfl, b6⟩; have B6 := Lib.hid (B5.out.trans (b6.mono B5.out.size)); clear b6; have HSM := same_z))
                | (go_at_call 17; ((with_reducible refine (same_any _ _ _).mono ?_); rintro e w8 ⟨rfl, rfl⟩; rw [HSM])))
              go_roundw
              case rel => exact ⟨1, by omega, by go_num, B6.out⟩
              case measure => simp [intOf]
            | some c =>
              go_wp2_with (first
                | (go_at_call 18; ((with_reducible refine (HQ.out _ HBW.out).mono ?_); rintro e w5 ⟨r, rfl, hr1, b5⟩; have B5 := Lib.hid (HBW.out.trans (b5.mono HBW.out.size)); obtain ⟨y0, y1, y2, y3⟩ := win_cells ((I1.out.below HBW.out I1.out.lt).below b5 (I1.out.below HBW.out I1.out.lt).lt); clear b5))
                | (go_at_call 19; ((with_reducible refine (HP.out _ B5.out).mono ?_); rintro e w6 ⟨r2, rfl, hr2, b6⟩; have B6 := Lib.hid (B5.out.trans (b6.mono B5.out.size)); clear b6; have HSM : (cn r2 == cn r) = true := by (rw [hr1, hr2]; simp)))
                | (go_at_call 17; ((with_reducible refine (same_any _ _ _).mono ?_); rintro e w8 ⟨rfl, rfl⟩; rw [HSM])))
              go_roundw
              case rel => exact ⟨1, by omega, by go_num, B6.out⟩
              case measure => simp [intOf]
          · subst hk0
            have HP : Hid (∀ W, Below w1.heap.size w1 W → Calls Try.prog 19 #[.agg #[.slice a n cap, .int .i64 F, .int .i64 T, .int .i64 N], .bool true] W (OptRet (instO ss n F T N true) W)) := fun W hb => inst_any a n cap ss F T N true W (HR1.out.below hb)
            have HQ : Hid (∀ W, Below w1.heap.size w1 W → Calls Try.prog 18 #[.agg #[.slice a n cap, .int .i64 F, .int .i64 T, .int .i64 N], .bool true] W (OptRet (instO ss n F T N true) W)) := fun W hb => rinst_any a n cap ss F T N true W (HR1.out.below hb) HN.out
            obtain ⟨o, ho⟩ : ∃ o, o = instO ss n F T N true := ⟨_, rfl⟩
            rw [← ho] at HP HQ
            clear ho
            cases o with
            | none =>
              go_wp2_with (first
                | (go_at_call 18; ((with_reducible refine (HQ.out _ HBW.out).mono ?_); rintro e w5 ⟨rfl, b5⟩; have B5 := Lib.hid (HBW.out.trans (b5.mono HBW.out.size)); obtain ⟨y0, y1, y2, y3⟩ := win_cells ((I1.out.below HBW.out I1.out.lt).below b5 (I1.out.below HBW.out I1.out.lt).lt); clear b5))
                | (go_at_call 19; ((with_reducible refine (HP.out _ B5.out).mono ?_); rintro e w6 ⟨rfl, b6⟩; have B6 := Lib.hid (B5.out.trans (b6.mono B5.out.size)); clear b6; have HSM := same_z))
                | (go_at_call 17; ((with_reducible refine (same_any _ _ _).mono ?_); rintro e w8 ⟨rfl, rfl⟩; rw [HSM])))
              go_roundw
              case rel => exact ⟨2, by omega, by go_num, B6.out⟩
              case measure => simp [intOf]
            | some c =>
              go_wp2_with (first
                | (go_at_call 18; ((with_reducible refine (HQ.out _ HBW.out).mono ?_); rintro e w5 ⟨r, rfl, hr1, b5⟩; have B5 := Lib.hid (HBW.out.trans (b5.mono HBW.out.size)); obtain ⟨y0, y1, y2, y3⟩ := win_cells ((I1.out.below HBW.out I1.out.lt).below b5 (I1.out.below HBW.out I1.out.lt).lt); clear b5))
                | (go_at_call 19; ((with_reducible refine (HP.out _ B5.out).mono ?_); rintro e w6 ⟨r2, rfl, hr2, b6⟩; have B6 := Lib.hid (B5.out.trans (b6.mono B5.out.size)); clear b6; have HSM : (cn r2 == cn r) = true := by (rw [hr1, hr2]; simp)))
                | (go_at_call 17; ((with_reducible refine (same_any _ _ _).mono ?_); rintro e w8 ⟨rfl, rfl⟩; rw [HSM])))
              go_roundw
              case rel => exact ⟨2, by omega, by go_num, B6.out⟩
              case measure => simp [intOf]
        · have dk8 : decide ((k : Int) < 2) = false := decide_eq_false (by omega)
          go_wp2_with fail
          go_ret
          exact ⟨rfl, BX.out.trans (HBW.out.mono BX.out.size)⟩
end Go.Proofs.Ytoeldcgclaiokaa
