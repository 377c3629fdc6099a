/- OverMembers: the walk. -/
import Derived.Test.YtoeldcgclaiokaaMembP
import Derived.Test.YtoeldcgclaiokaaEdgesW
namespace Go.Proofs.Ytoeldcgclaiokaa
open Go.Fl Go.Rel Go.RowKit
set_option linter.unusedVariables false
set_option linter.unusedSimpArgs false

def MbRel (c : Nat) (vs : List Nat) (n : Nat) (W : World) (vf vi : Value) (wr : World) : Prop := ∃ k : Nat, k ≤ n ∧ vf = .bool (fnd c vs k) ∧ vi = .int .i64 (k : Int) ∧ wr = W

theorem bad_none {ss : List Smp} {n : Nat} {F T N : Int} (h : sndB F T N ss n = false ∨ n = 0) : callO .max ss n F T N 0 [] = none := by
  unfold callO
  rw [if_neg]
  rintro ⟨_, h1, h2⟩
  rcases h with h | h
  · rw [h] at h2; cases h2
  · subst h; exact absurd h1 (by decide)

set_option maxHeartbeats 8000000 in
set_option maxRecDepth 1000000 in
theorem members_none (a : Option Addr) (n cap : Nat) (ss : List Smp) (F T N : Int) (w : World) (hr : SRow w a n ss) (hn : n < 5864062014805) (hbad : sndB F T N ss n = false ∨ n = 0) :
    Calls Try.prog 7 #[.agg #[.slice a n cap, .int .i64 F, .int .i64 T, .int .i64 N]] w (BoolB true w) := by
  have HA := Lib.hid (alive_any)
  have hO := bad_none hbad
  obtain ⟨w0, hw0⟩ : ∃ w0, w0 = w.alloc (.cells #[.slice a n cap, .int .i64 F, .int .i64 T, .int .i64 N] 30) := ⟨_, rfl⟩
  have HI0 : Hid (Bk.Is w0 w.heap.size (winCells a n cap F T N) 30) := by show Bk.Is _ _ _ _; rw [hw0]; exact Bk.Is.made w _ _
  have HB0 : Hid (Below w.heap.size w w0) := by show Below _ _ _; rw [hw0]; exact (Below.refl _ _).alloc (Nat.le_refl _) _
  have HW0 := Lib.hid hw0
  have HM1 : Hid (∀ W, Below w.heap.size w W → Calls Try.prog 20 #[.agg #[.slice a n cap, .int .i64 F, .int .i64 T, .int .i64 N]] W (BoolB (sndB F T N ss n) W)) := fun W hb => made_any a n cap ss F T N W (hr.below hb) (by omega)
  have HC : Hid (∀ W, Below w.heap.size w W → Calls Try.prog 12 #[.string ⟨#[109, 97, 120, 95, 111, 118, 101, 114, 95, 116, 105, 109, 101]⟩, .agg #[.slice a n cap, .int .i64 F, .int .i64 T, .int .i64 N], .slice none 0 0] W (OptRet none W)) := fun W hb => by
    have := call_nm .max a n cap ss F T N none 0 0 [] W (hr.below hb) (by omega) (row_none W)
    rw [show ([] : List Nat).map cn = [] from rfl, hO] at this
    exact this
  have BAD := Lib.hid hbad
  clear hr hw0 hO hbad hn
  cases hs : sndB F T N ss n with
  | false =>
    rw [hs] at HM1
    clear BAD hs
    go_enter Try.func7, Try.ntmps7
    go_wp2_with (first
      | (go_at_call 10; rw [← HW0.out]; ((with_reducible refine (HA.out _).mono ?_); rintro e w1 ⟨rfl, b1⟩; have BX := Lib.hid (HB0.out.trans (b1.mono HB0.out.size)); have J1 := Lib.hid (HI0.out.below b1 HI0.out.lt); obtain ⟨x30, x31, x32, x33⟩ := win_cells J1.out; clear b1))
      | (go_at_call 20; ((with_reducible refine (HM1.out _ BX.out).mono ?_); rintro e w3 ⟨rfl, b3⟩; have BX3 := Lib.hid (BX.out.trans (b3.mono BX.out.size)); obtain ⟨y30, y31, y32, y33⟩ := win_cells (J1.out.below b3 J1.out.lt); clear b3))
      | (go_at_call 12; ((with_reducible refine (HC.out _ BX3.out).mono ?_); rintro e w6 ⟨rfl, b6⟩)))
    go_ret
    exact ⟨rfl, BX3.out.trans (b6.mono BX3.out.size)⟩
  | true =>
    rw [hs] at HM1
    have h2 : n = 0 := by
      rcases BAD.out with h | h
      · rw [hs] at h; cases h
      · exact h
    subst h2
    clear BAD hs
    go_enter Try.func7, Try.ntmps7
    go_wp2_with (first
      | (go_at_call 10; rw [← HW0.out]; ((with_reducible refine (HA.out _).mono ?_); rintro e w1 ⟨rfl, b1⟩; have BX := Lib.hid (HB0.out.trans (b1.mono HB0.out.size)); have J1 := Lib.hid (HI0.out.below b1 HI0.out.lt); obtain ⟨x30, x31, x32, x33⟩ := win_cells J1.out; clear b1))
      | (go_at_call 20; ((with_reducible refine (HM1.out _ BX.out).mono ?_); rintro e w3 ⟨rfl, b3⟩; have BX3 := Lib.hid (BX.out.trans (b3.mono BX.out.size)); obtain ⟨y30, y31, y32, y33⟩ := win_cells (J1.out.below b3 J1.out.lt); clear b3))
      | (go_at_call 12; ((with_reducible refine (HC.out _ BX3.out).mono ?_); rintro e w6 ⟨rfl, b6⟩)))
    go_ret
    exact ⟨rfl, BX3.out.trans (b6.mono BX3.out.size)⟩

theorem call_good_eq (mm : Nm) {ss : List Smp} {m : Nat} {F T N : Int} {k : Nat} {qs : List Nat} (hk : k = mm.nums) (hp : mm.pts = 1) (hs : sndB F T N ss (m + 1) = true) : callO mm ss (m + 1) F T N k qs = mm.cls ss (m + 1) F T N qs := by
  unfold callO; rw [if_pos ⟨hk, by rw [hp]; omega, hs⟩]

set_option maxHeartbeats 8000000 in
set_option maxRecDepth 1000000 in
theorem members_some (a : Option Addr) (m cap : Nat) (ss : List Smp) (F T N : Int) (w : World) (hr : SRow w a (m + 1) ss) (hn : m + 1 < 5864062014805) (hs : sndB F T N ss (m + 1) = true) :
    Calls Try.prog 7 #[.agg #[.slice a (m + 1) cap, .int .i64 F, .int .i64 T, .int .i64 N]] w (BoolB true w) := by
  have HA := Lib.hid (alive_any)
  have hlv : (vcs ss).length = m + 1 := by rw [length_vcs, hr.1]
  have MEMB0 : Hid (callO .max ss (m + 1) F T N 0 (([] : List Nat).map cn) = some (mostT (vcs ss) true m)) := call_good_eq .max rfl rfl hs
  have MEMB1 : Hid (callO .min ss (m + 1) F T N 0 (([] : List Nat).map cn) = some (mostT (vcs ss) false m)) := call_good_eq .min rfl rfl hs
  have MEMB2 : Hid (callO .first ss (m + 1) F T N 0 (([] : List Nat).map cn) = some (at0 (vcs ss) 0)) := call_good_eq .first rfl rfl hs
  have MEMB3 : Hid (callO .last ss (m + 1) F T N 0 (([] : List Nat).map cn) = some (at0 (vcs ss) m)) := call_good_eq .last rfl rfl hs
  have MEMB4 : Hid (callO .quantile ss (m + 1) F T N 1 ([floatOfInt .f64 0].map cn) = some (quantS 0 (vcs ss))) := (call_good_eq .quantile rfl rfl hs).trans (by show some (quantS (cn (floatOfInt .f64 0)) (vcs ss)) = _; rw [show cn (floatOfInt .f64 0) = 0 by decide +kernel])
  have MEMB5 : Hid (callO .quantile ss (m + 1) F T N 1 ([floatOfInt .f64 1].map cn) = some (quantS w1 (vcs ss))) := (call_good_eq .quantile rfl rfl hs).trans (by show some (quantS (cn (floatOfInt .f64 1)) (vcs ss)) = _; rw [show cn (floatOfInt .f64 1) = w1 by decide +kernel])
  have MF0 : Hid (fnd (mostT (vcs ss) true m) (vcs ss) (m + 1) = true) := by obtain ⟨j, h1, h2⟩ := most_mem (vcs ss) true m; exact fnd_of h2 (by omega)
  have MF1 : Hid (fnd (mostT (vcs ss) false m) (vcs ss) (m + 1) = true) := by obtain ⟨j, h1, h2⟩ := most_mem (vcs ss) false m; exact fnd_of h2 (by omega)
  have MF2 : Hid (fnd (at0 (vcs ss) 0) (vcs ss) (m + 1) = true) := fnd_of rfl (by omega)
  have MF3 : Hid (fnd (at0 (vcs ss) m) (vcs ss) (m + 1) = true) := fnd_of rfl (by omega)
  have MF4 : Hid (fnd (quantS 0 (vcs ss)) (vcs ss) (m + 1) = true) := by obtain ⟨j, h1, h2⟩ := quant_mem (q := 0) (cs := vcs ss) (.inl rfl) (by omega) (by omega); exact fnd_of h2 (by omega)
  have MF5 : Hid (fnd (quantS w1 (vcs ss)) (vcs ss) (m + 1) = true) := by obtain ⟨j, h1, h2⟩ := quant_mem (q := w1) (cs := vcs ss) (.inr rfl) (by omega) (by omega); exact fnd_of h2 (by omega)
  obtain ⟨w0, hw0⟩ : ∃ w0, w0 = w.alloc (.cells #[.slice a (m + 1) cap, .int .i64 F, .int .i64 T, .int .i64 N] 30) := ⟨_, rfl⟩
  have HI0 : Hid (Bk.Is w0 w.heap.size (winCells a (m + 1) cap F T N) 30) := by show Bk.Is _ _ _ _; rw [hw0]; exact Bk.Is.made w _ _
  have HB0 : Hid (Below w.heap.size w w0) := by show Below _ _ _; rw [hw0]; exact (Below.refl _ _).alloc (Nat.le_refl _) _
  have HR := Lib.hid hr
  have HL := Lib.hid hr.1
  have HNN : Hid (m + 1 < 17592186044416) := by show m + 1 < _; omega
  have HW0 := Lib.hid hw0
  have HM1 : Hid (∀ W, Below w.heap.size w W → Calls Try.prog 20 #[.agg #[.slice a (m + 1) cap, .int .i64 F, .int .i64 T, .int .i64 N]] W (BoolB true W)) := fun W hb => by rw [← hs]; exact made_any a (m + 1) cap ss F T N W (hr.below hb) (by omega)
  have dd0 : ((m : Int) + 1 == 0) = false := by rw [beq_eq_false_iff_ne]; omega
  have hlen : (m : Int) + 1 ≤ 5864062014805 := by omega
  have hw1 : IntKind.i64.wrap (m : Int) = (m : Int) := by rw [IntKind.wrap_i64]; omega
  clear hr hw0 hs hn hlv
  go_enter Try.func7, Try.ntmps7
  go_upto_block 0 with (first
    | (go_at_call 10; rw [← HW0.out]; ((with_reducible refine (HA.out _).mono ?_); rintro e w1 ⟨rfl, b1⟩; have BX := Lib.hid (HB0.out.trans (b1.mono HB0.out.size)); have J1 := Lib.hid (HI0.out.below b1 HI0.out.lt); obtain ⟨x30, x31, x32, x33⟩ := win_cells J1.out; clear b1))
    | (go_at_call 20; ((with_reducible refine (HM1.out _ BX.out).mono ?_); rintro e w3 ⟨rfl, b3⟩; have BX3 := Lib.hid (BX.out.trans (b3.mono BX.out.size)); have J3 := Lib.hid (J1.out.below b3 J1.out.lt); obtain ⟨y30, y31, y32, y33⟩ := win_cells J3.out; clear b3)))
  clear x30 x31 x32 x33 y30 y31 y32 y33
  obtain ⟨B, hBB⟩ : ∃ B, B = w3.heap.size := ⟨_, rfl⟩
  obtain ⟨w4, hw4⟩ : ∃ w4, w4 = w3.alloc (.cells #[.string ⟨#[109, 97, 120, 95, 111, 118, 101, 114, 95, 116, 105, 109, 101]⟩, .string ⟨#[109, 105, 110, 95, 111, 118, 101, 114, 95, 116, 105, 109, 101]⟩, .string ⟨#[102, 105, 114, 115, 116, 95, 111, 118, 101, 114, 95, 116, 105, 109, 101]⟩, .string ⟨#[108, 97, 115, 116, 95, 111, 118, 101, 114, 95, 116, 105, 109, 101]⟩, .string ⟨#[113, 117, 97, 110, 116, 105, 108, 101, 95, 111, 118, 101, 114, 95, 116, 105, 109, 101]⟩, .string ⟨#[113, 117, 97, 110, 116, 105, 108, 101, 95, 111, 118, 101, 114, 95, 116, 105, 109, 101]⟩] 9) := ⟨_, rfl⟩
  have NMS : Hid (Bk.Is w4 B #[.string ⟨#[109, 97, 120, 95, 111, 118, 101, 114, 95, 116, 105, 109, 101]⟩, .string ⟨#[109, 105, 110, 95, 111, 118, 101, 114, 95, 116, 105, 109, 101]⟩, .string ⟨#[102, 105, 114, 115, 116, 95, 111, 118, 101, 114, 95, 116, 105, 109, 101]⟩, .string ⟨#[108, 97, 115, 116, 95, 111, 118, 101, 114, 95, 116, 105, 109, 101]⟩, .string ⟨#[113, 117, 97, 110, 116, 105, 108, 101, 95, 111, 118, 101, 114, 95, 116, 105, 109, 101]⟩, .string ⟨#[113, 117, 97, 110, 116, 105, 108, 101, 95, 111, 118, 101, 114, 95, 116, 105, 109, 101]⟩] 9) := by show Bk.Is _ _ _ _; rw [hw4, hBB]; exact Bk.Is.made w3 _ _
  have b34 : Below w3.heap.size w3 w4 := by rw [hw4]; exact (Below.refl _ _).alloc (Nat.le_refl _) _
  have BX4 := Lib.hid (BX3.out.trans (b34.mono BX3.out.size))
  have J4 := Lib.hid (J3.out.below b34 J3.out.lt)
  have HR4 := Lib.hid (HR.out.below BX4.out)
  rw [← hw4, ← hBB]
  clear b34 hw4 hBB
  obtain ⟨b, off, ha, -⟩ := HR4.out.2.2.2 (by omega)
  subst ha
  go_wp2_with fail
  go_loopw [6] (ORel 6 w4) (fun vi _ => 6 - (intOf vi).toNat)
  case atStart => exact ⟨0, by omega, rfl, Below.refl _ _⟩
  case round =>
    obtain ⟨i, hi, rfl, bw⟩ := hrel
    have HBW := Lib.hid bw
    obtain ⟨x0, x1, x2, x3⟩ := win_cells (J4.out.below bw J4.out.lt)
    have NMW := Lib.hid (NMS.out.below bw NMS.out.lt)
    have HNM0 : wr.cell? ⟨B, 0, none⟩ = some (.string ⟨#[109, 97, 120, 95, 111, 118, 101, 114, 95, 116, 105, 109, 101]⟩) := by rw [NMW.out.cell]; rfl
    have HNM1 : wr.cell? ⟨B, 1, none⟩ = some (.string ⟨#[109, 105, 110, 95, 111, 118, 101, 114, 95, 116, 105, 109, 101]⟩) := by rw [NMW.out.cell]; rfl
    have HNM2 : wr.cell? ⟨B, 2, none⟩ = some (.string ⟨#[102, 105, 114, 115, 116, 95, 111, 118, 101, 114, 95, 116, 105, 109, 101]⟩) := by rw [NMW.out.cell]; rfl
    have HNM3 : wr.cell? ⟨B, 3, none⟩ = some (.string ⟨#[108, 97, 115, 116, 95, 111, 118, 101, 114, 95, 116, 105, 109, 101]⟩) := by rw [NMW.out.cell]; rfl
    have HNM4 : wr.cell? ⟨B, 4, none⟩ = some (.string ⟨#[113, 117, 97, 110, 116, 105, 108, 101, 95, 111, 118, 101, 114, 95, 116, 105, 109, 101]⟩) := by rw [NMW.out.cell]; rfl
    have HNM5 : wr.cell? ⟨B, 5, none⟩ = some (.string ⟨#[113, 117, 97, 110, 116, 105, 108, 101, 95, 111, 118, 101, 114, 95, 116, 105, 109, 101]⟩) := by rw [NMW.out.cell]; rfl
    clear bw
    by_cases hin : i < 6
    · have hi0 : i = 0 ∨ i = 1 ∨ i = 2 ∨ i = 3 ∨ i = 4 ∨ i = 5 := by omega
      rcases hi0 with hi0 | hi0 | hi0 | hi0 | hi0 | hi0
      · subst hi0
        have HC : Hid (Calls Try.prog 12 #[.string ⟨#[109, 97, 120, 95, 111, 118, 101, 114, 95, 116, 105, 109, 101]⟩, .agg #[.slice (some ⟨b, off, none⟩) (m + 1) cap, .int .i64 F, .int .i64 T, .int .i64 N], .slice none 0 0] (wr).drew (OptRet (some (mostT (vcs ss) true m)) (wr).drew)) := by
          have := call_nm .max (some ⟨b, off, none⟩) (m + 1) cap ss F T N none 0 0 [] (wr).drew (HR4.out.below (HBW.out.drewN' 1)) HNN.out (row_none _)
          rw [MEMB0.out] at this
          exact this
        have HMEM := Lib.hid MF0.out
        obtain ⟨c, hc⟩ : ∃ c, c = mostT (vcs ss) true m := ⟨_, rfl⟩
        have hst := And.intro HNM0 (And.intro x0 (And.intro x1 (And.intro x2 (And.intro x3 HBW.out))))
        rw [← hc] at HC HMEM
        have HTOP : Hid (∀ j, j ≤ m → ov true (at0 (vcs ss) j) c = false) := fun j hj => by rw [hc]; exact (most_top (vcs ss) true m).2 j hj
        have HNAN : Hid (isN c = true → isN (at0 (vcs ss) 0) = true) := fun h => (most_top (vcs ss) true m).1 (by rw [← hc]; exact h) 0 (by omega)
        clear hc
        go_wp2_with fail
        go_region_held3 (fun w' => w'.cell? ⟨B, 0, none⟩ = some (.string ⟨#[109, 97, 120, 95, 111, 118, 101, 114, 95, 116, 105, 109, 101]⟩) ∧ w'.cell? ⟨w.heap.size, 0, none⟩ = some (.slice (some ⟨b, off, none⟩) (m + 1) cap) ∧ w'.cell? ⟨w.heap.size, 1, none⟩ = some (.int .i64 F) ∧ w'.cell? ⟨w.heap.size, 2, none⟩ = some (.int .i64 T) ∧ w'.cell? ⟨w.heap.size, 3, none⟩ = some (.int .i64 N) ∧ Below w4.heap.size w4 w') (first | assumption | exact keep5 (by assumption) (by assumption) | exact keepD5 (by assumption)) (first
          | (go_at_call 12; ((with_reducible refine HC.out.mono ?_); rintro e w5 ⟨r, rfl, hr1, b5⟩; have HR1 := Lib.hid hr1; clear hr1)))
        rename_i hHeld
        have HH := Lib.hid hHeld
        clear hHeld b5 hst
        obtain ⟨y0, z0⟩ := HH.out.2
        have HB5 := Lib.hid z0.2.2.2
        have HR5 := Lib.hid (HR4.out.below HB5.out)
        clear z0
        go_wp2_with fail
        go_loopw [10, 11] (MbRel c (vcs ss) (m + 1) w5) (fun _ vi _ => m + 1 - (intOf vi).toNat)
        case atStart => exact ⟨0, by omega, rfl, rfl, rfl⟩
        case round =>
          obtain ⟨k, hk, rfl, rfl, rfl⟩ := hrel
          by_cases hkn : k < m + 1
          · obtain ⟨b', off', he, hcell⟩ := HR5.out.2.2.2 (by omega)
            cases he
            have e1 := (hcell k hkn).2.1
            have HVK : Hid (at0 (vcs ss) k = cn (vS ss k)) := at0_vcs ss (by rw [HL.out]; omega)
            obtain ⟨x, hx⟩ : ∃ q, q = vS ss k := ⟨_, rfl⟩
            rw [← hx] at e1 HVK
            have hlt : (k : Int) < (m : Int) + 1 := by omega
            have HSM : (cn r == cn x) = (c == at0 (vcs ss) k) := by rw [HR1.out, HVK.out]
            have HFN : Hid (fnd c (vcs ss) (k + 1) = (fnd c (vcs ss) k || (c == at0 (vcs ss) k))) := rfl
            have ho : (FloatKind.f64.format.order x r == some Ordering.gt) = false := by
              rw [order_cn, HR1.out, ← HVK.out]
              exact HTOP.out k (by omega)
            obtain ⟨fk, hfk⟩ : ∃ q, q = fnd c (vcs ss) k := ⟨_, rfl⟩
            rw [← hfk] at HFN ⊢
            clear hcell hx hfk
            cases fk with
            | true =>
              go_wp2_with fail
              go_roundw
              case rel => exact ⟨k + 1, by omega, by rw [HFN.out]; rfl, by go_num, rfl⟩
              case measure => simp [intOf]; omega
            | false =>
              go_wp2_with (go_at_call 17; ((with_reducible refine (same_any _ _ _).mono ?_); rintro e w8 ⟨rfl, rfl⟩; rw [HSM]))
              go_roundw
              case rel => exact ⟨k + 1, by omega, by rw [HFN.out]; rfl, by go_num, rfl⟩
              case measure => simp [intOf]; omega
          · obtain rfl : k = m + 1 := by omega
            rw [HMEM.out]
            obtain ⟨b', off', he, hcell⟩ := HR5.out.2.2.2 (by omega)
            cases he
            have e1 := (hcell 0 (by omega)).2.1
            rw [Nat.zero_mul, Nat.add_zero] at e1
            have HV0 : Hid (at0 (vcs ss) 0 = cn (vS ss 0)) := at0_vcs ss (by rw [HL.out]; omega)
            obtain ⟨v0, hv0⟩ : ∃ q, q = vS ss 0 := ⟨_, rfl⟩
            rw [← hv0] at e1 HV0
            clear hcell hv0
            have o1 : (FloatKind.f64.format.order r r != some Ordering.eq) = isN c := by rw [← HR1.out, isN_cn]; exact ne_self r
            have o2 : (FloatKind.f64.format.order v0 v0 == some Ordering.eq) = !isN v0 := by rw [← ne_self v0]; unfold bne; rw [Bool.not_not]; rfl
            cases hN : isN c with
            | true =>
              have hn0 : isN v0 = true := by rw [← isN_cn, ← HV0.out]; exact HNAN.out hN
              rw [hN] at o1
              rw [hn0] at o2
              simp only [Bool.not_true] at o2
              clear hN hn0
              go_wp2_with fail
              go_quiet (fail)
              go_wp2_with fail
              go_roundw
              case rel => exact ⟨1, by omega, by go_num, HB5.out.drewN' _⟩
              case measure => simp [intOf]
            | false =>
              rw [hN] at o1
              clear hN o2
              go_wp2_with fail
              go_quiet (fail)
              go_wp2_with fail
              go_roundw
              case rel => exact ⟨1, by omega, by go_num, HB5.out.drewN' _⟩
              case measure => simp [intOf]
      · subst hi0
        have HC : Hid (Calls Try.prog 12 #[.string ⟨#[109, 105, 110, 95, 111, 118, 101, 114, 95, 116, 105, 109, 101]⟩, .agg #[.slice (some ⟨b, off, none⟩) (m + 1) cap, .int .i64 F, .int .i64 T, .int .i64 N], .slice none 0 0] (wr).drew (OptRet (some (mostT (vcs ss) false m)) (wr).drew)) := by
          have := call_nm .min (some ⟨b, off, none⟩) (m + 1) cap ss F T N none 0 0 [] (wr).drew (HR4.out.below (HBW.out.drewN' 1)) HNN.out (row_none _)
          rw [MEMB1.out] at this
          exact this
        have HMEM := Lib.hid MF1.out
        obtain ⟨c, hc⟩ : ∃ c, c = mostT (vcs ss) false m := ⟨_, rfl⟩
        have hst := And.intro HNM1 (And.intro x0 (And.intro x1 (And.intro x2 (And.intro x3 HBW.out))))
        rw [← hc] at HC HMEM
        have HTOP : Hid (∀ j, j ≤ m → ov false (at0 (vcs ss) j) c = false) := fun j hj => by rw [hc]; exact (most_top (vcs ss) false m).2 j hj
        have HNAN : Hid (isN c = true → isN (at0 (vcs ss) 0) = true) := fun h => (most_top (vcs ss) false m).1 (by rw [← hc]; exact h) 0 (by omega)
        clear hc
        go_wp2_with fail
        go_region_held3 (fun w' => w'.cell? ⟨B, 1, none⟩ = some (.string ⟨#[109, 105, 110, 95, 111, 118, 101, 114, 95, 116, 105, 109, 101]⟩) ∧ w'.cell? ⟨w.heap.size, 0, none⟩ = some (.slice (some ⟨b, off, none⟩) (m + 1) cap) ∧ w'.cell? ⟨w.heap.size, 1, none⟩ = some (.int .i64 F) ∧ w'.cell? ⟨w.heap.size, 2, none⟩ = some (.int .i64 T) ∧ w'.cell? ⟨w.heap.size, 3, none⟩ = some (.int .i64 N) ∧ Below w4.heap.size w4 w') (first | assumption | exact keep5 (by assumption) (by assumption) | exact keepD5 (by assumption)) (first
          | (go_at_call 12; ((with_reducible refine HC.out.mono ?_); rintro e w5 ⟨r, rfl, hr1, b5⟩; have HR1 := Lib.hid hr1; clear hr1)))
        rename_i hHeld
        have HH := Lib.hid hHeld
        clear hHeld b5 hst
        obtain ⟨y0, z0⟩ := HH.out.2
        have HB5 := Lib.hid z0.2.2.2
        have HR5 := Lib.hid (HR4.out.below HB5.out)
        clear z0
        go_wp2_with fail
        go_loopw [10, 11] (MbRel c (vcs ss) (m + 1) w5) (fun _ vi _ => m + 1 - (intOf vi).toNat)
        case atStart => exact ⟨0, by omega, rfl, rfl, rfl⟩
        case round =>
          obtain ⟨k, hk, rfl, rfl, rfl⟩ := hrel
          by_cases hkn : k < m + 1
          · obtain ⟨b', off', he, hcell⟩ := HR5.out.2.2.2 (by omega)
            cases he
            have e1 := (hcell k hkn).2.1
            have HVK : Hid (at0 (vcs ss) k = cn (vS ss k)) := at0_vcs ss (by rw [HL.out]; omega)
            obtain ⟨x, hx⟩ : ∃ q, q = vS ss k := ⟨_, rfl⟩
            rw [← hx] at e1 HVK
            have hlt : (k : Int) < (m : Int) + 1 := by omega
            have HSM : (cn r == cn x) = (c == at0 (vcs ss) k) := by rw [HR1.out, HVK.out]
            have HFN : Hid (fnd c (vcs ss) (k + 1) = (fnd c (vcs ss) k || (c == at0 (vcs ss) k))) := rfl
            have ho : (FloatKind.f64.format.order x r == some Ordering.lt) = false := by
              rw [order_cn, HR1.out, ← HVK.out]
              exact HTOP.out k (by omega)
            obtain ⟨fk, hfk⟩ : ∃ q, q = fnd c (vcs ss) k := ⟨_, rfl⟩
            rw [← hfk] at HFN ⊢
            clear hcell hx hfk
            cases fk with
            | true =>
              go_wp2_with fail
              go_roundw
              case rel => exact ⟨k + 1, by omega, by rw [HFN.out]; rfl, by go_num, rfl⟩
              case measure => simp [intOf]; omega
            | false =>
              go_wp2_with (go_at_call 17; ((with_reducible refine (same_any _ _ _).mono ?_); rintro e w8 ⟨rfl, rfl⟩; rw [HSM]))
              go_roundw
              case rel => exact ⟨k + 1, by omega, by rw [HFN.out]; rfl, by go_num, rfl⟩
              case measure => simp [intOf]; omega
          · obtain rfl : k = m + 1 := by omega
            rw [HMEM.out]
            obtain ⟨b', off', he, hcell⟩ := HR5.out.2.2.2 (by omega)
            cases he
            have e1 := (hcell 0 (by omega)).2.1
            rw [Nat.zero_mul, Nat.add_zero] at e1
            have HV0 : Hid (at0 (vcs ss) 0 = cn (vS ss 0)) := at0_vcs ss (by rw [HL.out]; omega)
            obtain ⟨v0, hv0⟩ : ∃ q, q = vS ss 0 := ⟨_, rfl⟩
            rw [← hv0] at e1 HV0
            clear hcell hv0
            have o1 : (FloatKind.f64.format.order r r != some Ordering.eq) = isN c := by rw [← HR1.out, isN_cn]; exact ne_self r
            have o2 : (FloatKind.f64.format.order v0 v0 == some Ordering.eq) = !isN v0 := by rw [← ne_self v0]; unfold bne; rw [Bool.not_not]; rfl
            cases hN : isN c with
            | true =>
              have hn0 : isN v0 = true := by rw [← isN_cn, ← HV0.out]; exact HNAN.out hN
              rw [hN] at o1
              rw [hn0] at o2
              simp only [Bool.not_true] at o2
              clear hN hn0
              go_wp2_with fail
              go_quiet (fail)
              go_wp2_with fail
              go_roundw
              case rel => exact ⟨2, by omega, by go_num, HB5.out.drewN' _⟩
              case measure => simp [intOf]
            | false =>
              rw [hN] at o1
              clear hN o2
              go_wp2_with fail
              go_quiet (fail)
              go_wp2_with fail
              go_roundw
              case rel => exact ⟨2, by omega, by go_num, HB5.out.drewN' _⟩
              case measure => simp [intOf]
      · subst hi0
        have HC : Hid (Calls Try.prog 12 #[.string ⟨#[102, 105, 114, 115, 116, 95, 111, 118, 101, 114, 95, 116, 105, 109, 101]⟩, .agg #[.slice (some ⟨b, off, none⟩) (m + 1) cap, .int .i64 F, .int .i64 T, .int .i64 N], .slice none 0 0] (wr).drew (OptRet (some (at0 (vcs ss) 0)) (wr).drew)) := by
          have := call_nm .first (some ⟨b, off, none⟩) (m + 1) cap ss F T N none 0 0 [] (wr).drew (HR4.out.below (HBW.out.drewN' 1)) HNN.out (row_none _)
          rw [MEMB2.out] at this
          exact this
        have HMEM := Lib.hid MF2.out
        obtain ⟨c, hc⟩ : ∃ c, c = at0 (vcs ss) 0 := ⟨_, rfl⟩
        have hst := And.intro HNM2 (And.intro x0 (And.intro x1 (And.intro x2 (And.intro x3 HBW.out))))
        rw [← hc] at HC HMEM
        clear hc
        go_wp2_with fail
        go_region_held3 (fun w' => w'.cell? ⟨B, 2, none⟩ = some (.string ⟨#[102, 105, 114, 115, 116, 95, 111, 118, 101, 114, 95, 116, 105, 109, 101]⟩) ∧ w'.cell? ⟨w.heap.size, 0, none⟩ = some (.slice (some ⟨b, off, none⟩) (m + 1) cap) ∧ w'.cell? ⟨w.heap.size, 1, none⟩ = some (.int .i64 F) ∧ w'.cell? ⟨w.heap.size, 2, none⟩ = some (.int .i64 T) ∧ w'.cell? ⟨w.heap.size, 3, none⟩ = some (.int .i64 N) ∧ Below w4.heap.size w4 w') (first | assumption | exact keep5 (by assumption) (by assumption) | exact keepD5 (by assumption)) (first
          | (go_at_call 12; ((with_reducible refine HC.out.mono ?_); rintro e w5 ⟨r, rfl, hr1, b5⟩; have HR1 := Lib.hid hr1; clear hr1)))
        rename_i hHeld
        have HH := Lib.hid hHeld
        clear hHeld b5 hst
        obtain ⟨y0, z0⟩ := HH.out.2
        have HB5 := Lib.hid z0.2.2.2
        have HR5 := Lib.hid (HR4.out.below HB5.out)
        clear z0
        go_wp2_with fail
        go_loopw [10, 11] (MbRel c (vcs ss) (m + 1) w5) (fun _ vi _ => m + 1 - (intOf vi).toNat)
        case atStart => exact ⟨0, by omega, rfl, rfl, rfl⟩
        case round =>
          obtain ⟨k, hk, rfl, rfl, rfl⟩ := hrel
          by_cases hkn : k < m + 1
          · obtain ⟨b', off', he, hcell⟩ := HR5.out.2.2.2 (by omega)
            cases he
            have e1 := (hcell k hkn).2.1
            have HVK : Hid (at0 (vcs ss) k = cn (vS ss k)) := at0_vcs ss (by rw [HL.out]; omega)
            obtain ⟨x, hx⟩ : ∃ q, q = vS ss k := ⟨_, rfl⟩
            rw [← hx] at e1 HVK
            have hlt : (k : Int) < (m : Int) + 1 := by omega
            have HSM : (cn r == cn x) = (c == at0 (vcs ss) k) := by rw [HR1.out, HVK.out]
            have HFN : Hid (fnd c (vcs ss) (k + 1) = (fnd c (vcs ss) k || (c == at0 (vcs ss) k))) := rfl
            obtain ⟨fk, hfk⟩ : ∃ q, q = fnd c (vcs ss) k := ⟨_, rfl⟩
            rw [← hfk] at HFN ⊢
            clear hcell hx hfk
            cases fk with
            | true =>
              go_wp2_with fail
              go_roundw
              case rel => exact ⟨k + 1, by omega, by rw [HFN.out]; rfl, by go_num, rfl⟩
              case measure => simp [intOf]; omega
            | false =>
              go_wp2_with (go_at_call 17; ((with_reducible refine (same_any _ _ _).mono ?_); rintro e w8 ⟨rfl, rfl⟩; rw [HSM]))
              go_roundw
              case rel => exact ⟨k + 1, by omega, by rw [HFN.out]; rfl, by go_num, rfl⟩
              case measure => simp [intOf]; omega
          · obtain rfl : k = m + 1 := by omega
            rw [HMEM.out]
            go_wp2_with fail
            go_quiet (fail)
            go_wp2_with fail
            go_roundw
            case rel => exact ⟨3, by omega, by go_num, HB5.out.drewN' _⟩
            case measure => simp [intOf]
      · subst hi0
        have HC : Hid (Calls Try.prog 12 #[.string ⟨#[108, 97, 115, 116, 95, 111, 118, 101, 114, 95, 116, 105, 109, 101]⟩, .agg #[.slice (some ⟨b, off, none⟩) (m + 1) cap, .int .i64 F, .int .i64 T, .int .i64 N], .slice none 0 0] (wr).drew (OptRet (some (at0 (vcs ss) m)) (wr).drew)) := by
          have := call_nm .last (some ⟨b, off, none⟩) (m + 1) cap ss F T N none 0 0 [] (wr).drew (HR4.out.below (HBW.out.drewN' 1)) HNN.out (row_none _)
          rw [MEMB3.out] at this
          exact this
        have HMEM := Lib.hid MF3.out
        obtain ⟨c, hc⟩ : ∃ c, c = at0 (vcs ss) m := ⟨_, rfl⟩
        have hst := And.intro HNM3 (And.intro x0 (And.intro x1 (And.intro x2 (And.intro x3 HBW.out))))
        rw [← hc] at HC HMEM
        clear hc
        go_wp2_with fail
        go_region_held3 (fun w' => w'.cell? ⟨B, 3, none⟩ = some (.string ⟨#[108, 97, 115, 116, 95, 111, 118, 101, 114, 95, 116, 105, 109, 101]⟩) ∧ w'.cell? ⟨w.heap.size, 0, none⟩ = some (.slice (some ⟨b, off, none⟩) (m + 1) cap) ∧ w'.cell? ⟨w.heap.size, 1, none⟩ = some (.int .i64 F) ∧ w'.cell? ⟨w.heap.size, 2, none⟩ = some (.int .i64 T) ∧ w'.cell? ⟨w.heap.size, 3, none⟩ = some (.int .i64 N) ∧ Below w4.heap.size w4 w') (first | assumption | exact keep5 (by assumption) (by assumption) | exact keepD5 (by assumption)) (first
          | (go_at_call 12; ((with_reducible refine HC.out.mono ?_); rintro e w5 ⟨r, rfl, hr1, b5⟩; have HR1 := Lib.hid hr1; clear hr1)))
        rename_i hHeld
        have HH := Lib.hid hHeld
        clear hHeld b5 hst
        obtain ⟨y0, z0⟩ := HH.out.2
        have HB5 := Lib.hid z0.2.2.2
        have HR5 := Lib.hid (HR4.out.below HB5.out)
        clear z0
        go_wp2_with fail
        go_loopw [10, 11] (MbRel c (vcs ss) (m + 1) w5) (fun _ vi _ => m + 1 - (intOf vi).toNat)
        case atStart => exact ⟨0, by omega, rfl, rfl, rfl⟩
        case round =>
          obtain ⟨k, hk, rfl, rfl, rfl⟩ := hrel
          by_cases hkn : k < m + 1
          · obtain ⟨b', off', he, hcell⟩ := HR5.out.2.2.2 (by omega)
            cases he
            have e1 := (hcell k hkn).2.1
            have HVK : Hid (at0 (vcs ss) k = cn (vS ss k)) := at0_vcs ss (by rw [HL.out]; omega)
            obtain ⟨x, hx⟩ : ∃ q, q = vS ss k := ⟨_, rfl⟩
            rw [← hx] at e1 HVK
            have hlt : (k : Int) < (m : Int) + 1 := by omega
            have HSM : (cn r == cn x) = (c == at0 (vcs ss) k) := by rw [HR1.out, HVK.out]
            have HFN : Hid (fnd c (vcs ss) (k + 1) = (fnd c (vcs ss) k || (c == at0 (vcs ss) k))) := rfl
            obtain ⟨fk, hfk⟩ : ∃ q, q = fnd c (vcs ss) k := ⟨_, rfl⟩
            rw [← hfk] at HFN ⊢
            clear hcell hx hfk
            cases fk with
            | true =>
              go_wp2_with fail
              go_roundw
              case rel => exact ⟨k + 1, by omega, by rw [HFN.out]; rfl, by go_num, rfl⟩
              case measure => simp [intOf]; omega
            | false =>
              go_wp2_with (go_at_call 17; ((with_reducible refine (same_any _ _ _).mono ?_); rintro e w8 ⟨rfl, rfl⟩; rw [HSM]))
              go_roundw
              case rel => exact ⟨k + 1, by omega, by rw [HFN.out]; rfl, by go_num, rfl⟩
              case measure => simp [intOf]; omega
          · obtain rfl : k = m + 1 := by omega
            rw [HMEM.out]
            go_wp2_with fail
            go_quiet (fail)
            go_wp2_with fail
            go_roundw
            case rel => exact ⟨4, by omega, by go_num, HB5.out.drewN' _⟩
            case measure => simp [intOf]
      · subst hi0
        have HBA := HBW.out.alloc HBW.out.size (.cells #[.float .f64 (floatOfInt .f64 0)] 25)
        have HC : Hid (Calls Try.prog 12 #[.string ⟨#[113, 117, 97, 110, 116, 105, 108, 101, 95, 111, 118, 101, 114, 95, 116, 105, 109, 101]⟩, .agg #[.slice (some ⟨b, off, none⟩) (m + 1) cap, .int .i64 F, .int .i64 T, .int .i64 N], .slice (some ⟨wr.heap.size, 0, none⟩) 1 1] ((wr.alloc (.cells #[.float .f64 (floatOfInt .f64 0)] 25))).drew (OptRet (some (quantS 0 (vcs ss))) ((wr.alloc (.cells #[.float .f64 (floatOfInt .f64 0)] 25))).drew)) := by
          have := call_nm .quantile (some ⟨b, off, none⟩) (m + 1) cap ss F T N (some ⟨wr.heap.size, 0, none⟩) 1 1 [floatOfInt .f64 0] ((wr.alloc (.cells #[.float .f64 (floatOfInt .f64 0)] 25))).drew (HR4.out.below (HBA.drewN' 1)) HNN.out (row_made1 wr _)
          rw [MEMB4.out] at this
          exact this
        have HMEM := Lib.hid MF4.out
        obtain ⟨c, hc⟩ : ∃ c, c = quantS 0 (vcs ss) := ⟨_, rfl⟩
        have hst := And.intro HNM4 (And.intro x0 (And.intro x1 (And.intro x2 (And.intro x3 HBW.out))))
        have hst2 := keepA5 hst (.cells #[.float .f64 (floatOfInt .f64 0)] 25)
        rw [← hc] at HC HMEM
        clear hc
        go_wp2_with fail
        go_region_held3 (fun w' => w'.cell? ⟨B, 4, none⟩ = some (.string ⟨#[113, 117, 97, 110, 116, 105, 108, 101, 95, 111, 118, 101, 114, 95, 116, 105, 109, 101]⟩) ∧ w'.cell? ⟨w.heap.size, 0, none⟩ = some (.slice (some ⟨b, off, none⟩) (m + 1) cap) ∧ w'.cell? ⟨w.heap.size, 1, none⟩ = some (.int .i64 F) ∧ w'.cell? ⟨w.heap.size, 2, none⟩ = some (.int .i64 T) ∧ w'.cell? ⟨w.heap.size, 3, none⟩ = some (.int .i64 N) ∧ Below w4.heap.size w4 w') (first | assumption | exact keep5 (by assumption) (by assumption) | exact keepD5 (by assumption)) (first
          | (go_at_call 12; ((with_reducible refine HC.out.mono ?_); rintro e w5 ⟨r, rfl, hr1, b5⟩; have HR1 := Lib.hid hr1; clear hr1)))
        rename_i hHeld
        have HH := Lib.hid hHeld
        clear hHeld b5 hst hst2
        obtain ⟨y0, z0⟩ := HH.out.2
        have HB5 := Lib.hid z0.2.2.2
        have HR5 := Lib.hid (HR4.out.below HB5.out)
        clear z0
        go_wp2_with fail
        go_loopw [10, 11] (MbRel c (vcs ss) (m + 1) w5) (fun _ vi _ => m + 1 - (intOf vi).toNat)
        case atStart => exact ⟨0, by omega, rfl, rfl, rfl⟩
        case round =>
          obtain ⟨k, hk, rfl, rfl, rfl⟩ := hrel
          by_cases hkn : k < m + 1
          · obtain ⟨b', off', he, hcell⟩ := HR5.out.2.2.2 (by omega)
            cases he
            have e1 := (hcell k hkn).2.1
            have HVK : Hid (at0 (vcs ss) k = cn (vS ss k)) := at0_vcs ss (by rw [HL.out]; omega)
            obtain ⟨x, hx⟩ : ∃ q, q = vS ss k := ⟨_, rfl⟩
            rw [← hx] at e1 HVK
            have hlt : (k : Int) < (m : Int) + 1 := by omega
            have HSM : (cn r == cn x) = (c == at0 (vcs ss) k) := by rw [HR1.out, HVK.out]
            have HFN : Hid (fnd c (vcs ss) (k + 1) = (fnd c (vcs ss) k || (c == at0 (vcs ss) k))) := rfl
            obtain ⟨fk, hfk⟩ : ∃ q, q = fnd c (vcs ss) k := ⟨_, rfl⟩
            rw [← hfk] at HFN ⊢
            clear hcell hx hfk
            cases fk with
            | true =>
              go_wp2_with fail
              go_roundw
              case rel => exact ⟨k + 1, by omega, by rw [HFN.out]; rfl, by go_num, rfl⟩
              case measure => simp [intOf]; omega
            | false =>
              go_wp2_with (go_at_call 17; ((with_reducible refine (same_any _ _ _).mono ?_); rintro e w8 ⟨rfl, rfl⟩; rw [HSM]))
              go_roundw
              case rel => exact ⟨k + 1, by omega, by rw [HFN.out]; rfl, by go_num, rfl⟩
              case measure => simp [intOf]; omega
          · obtain rfl : k = m + 1 := by omega
            rw [HMEM.out]
            go_wp2_with fail
            go_quiet (fail)
            go_wp2_with fail
            go_roundw
            case rel => exact ⟨5, by omega, by go_num, HB5.out.drewN' _⟩
            case measure => simp [intOf]
      · subst hi0
        have HBA := HBW.out.alloc HBW.out.size (.cells #[.float .f64 (floatOfInt .f64 1)] 25)
        have HC : Hid (Calls Try.prog 12 #[.string ⟨#[113, 117, 97, 110, 116, 105, 108, 101, 95, 111, 118, 101, 114, 95, 116, 105, 109, 101]⟩, .agg #[.slice (some ⟨b, off, none⟩) (m + 1) cap, .int .i64 F, .int .i64 T, .int .i64 N], .slice (some ⟨wr.heap.size, 0, none⟩) 1 1] ((wr.alloc (.cells #[.float .f64 (floatOfInt .f64 1)] 25))).drew (OptRet (some (quantS Go.Fl.w1 (vcs ss))) ((wr.alloc (.cells #[.float .f64 (floatOfInt .f64 1)] 25))).drew)) := by
          have := call_nm .quantile (some ⟨b, off, none⟩) (m + 1) cap ss F T N (some ⟨wr.heap.size, 0, none⟩) 1 1 [floatOfInt .f64 1] ((wr.alloc (.cells #[.float .f64 (floatOfInt .f64 1)] 25))).drew (HR4.out.below (HBA.drewN' 1)) HNN.out (row_made1 wr _)
          rw [MEMB5.out] at this
          exact this
        have HMEM := Lib.hid MF5.out
        obtain ⟨c, hc⟩ : ∃ c, c = quantS Go.Fl.w1 (vcs ss) := ⟨_, rfl⟩
        have hst := And.intro HNM5 (And.intro x0 (And.intro x1 (And.intro x2 (And.intro x3 HBW.out))))
        have hst2 := keepA5 hst (.cells #[.float .f64 (floatOfInt .f64 1)] 25)
        rw [← hc] at HC HMEM
        clear hc
        go_wp2_with fail
        go_region_held3 (fun w' => w'.cell? ⟨B, 5, none⟩ = some (.string ⟨#[113, 117, 97, 110, 116, 105, 108, 101, 95, 111, 118, 101, 114, 95, 116, 105, 109, 101]⟩) ∧ w'.cell? ⟨w.heap.size, 0, none⟩ = some (.slice (some ⟨b, off, none⟩) (m + 1) cap) ∧ w'.cell? ⟨w.heap.size, 1, none⟩ = some (.int .i64 F) ∧ w'.cell? ⟨w.heap.size, 2, none⟩ = some (.int .i64 T) ∧ w'.cell? ⟨w.heap.size, 3, none⟩ = some (.int .i64 N) ∧ Below w4.heap.size w4 w') (first | assumption | exact keep5 (by assumption) (by assumption) | exact keepD5 (by assumption)) (first
          | (go_at_call 12; ((with_reducible refine HC.out.mono ?_); rintro e w5 ⟨r, rfl, hr1, b5⟩; have HR1 := Lib.hid hr1; clear hr1)))
        rename_i hHeld
        have HH := Lib.hid hHeld
        clear hHeld b5 hst hst2
        obtain ⟨y0, z0⟩ := HH.out.2
        have HB5 := Lib.hid z0.2.2.2
        have HR5 := Lib.hid (HR4.out.below HB5.out)
        clear z0
        go_wp2_with fail
        go_loopw [10, 11] (MbRel c (vcs ss) (m + 1) w5) (fun _ vi _ => m + 1 - (intOf vi).toNat)
        case atStart => exact ⟨0, by omega, rfl, rfl, rfl⟩
        case round =>
          obtain ⟨k, hk, rfl, rfl, rfl⟩ := hrel
          by_cases hkn : k < m + 1
          · obtain ⟨b', off', he, hcell⟩ := HR5.out.2.2.2 (by omega)
            cases he
            have e1 := (hcell k hkn).2.1
            have HVK : Hid (at0 (vcs ss) k = cn (vS ss k)) := at0_vcs ss (by rw [HL.out]; omega)
            obtain ⟨x, hx⟩ : ∃ q, q = vS ss k := ⟨_, rfl⟩
            rw [← hx] at e1 HVK
            have hlt : (k : Int) < (m : Int) + 1 := by omega
            have HSM : (cn r == cn x) = (c == at0 (vcs ss) k) := by rw [HR1.out, HVK.out]
            have HFN : Hid (fnd c (vcs ss) (k + 1) = (fnd c (vcs ss) k || (c == at0 (vcs ss) k))) := rfl
            obtain ⟨fk, hfk⟩ : ∃ q, q = fnd c (vcs ss) k := ⟨_, rfl⟩
            rw [← hfk] at HFN ⊢
            clear hcell hx hfk
            cases fk with
            | true =>
              go_wp2_with fail
              go_roundw
              case rel => exact ⟨k + 1, by omega, by rw [HFN.out]; rfl, by go_num, rfl⟩
              case measure => simp [intOf]; omega
            | false =>
              go_wp2_with (go_at_call 17; ((with_reducible refine (same_any _ _ _).mono ?_); rintro e w8 ⟨rfl, rfl⟩; rw [HSM]))
              go_roundw
              case rel => exact ⟨k + 1, by omega, by rw [HFN.out]; rfl, by go_num, rfl⟩
              case measure => simp [intOf]; omega
          · obtain rfl : k = m + 1 := by omega
            rw [HMEM.out]
            go_wp2_with fail
            go_quiet (fail)
            go_wp2_with fail
            go_roundw
            case rel => exact ⟨6, by omega, by go_num, HB5.out.drewN' _⟩
            case measure => simp [intOf]
    · have di : decide ((i : Int) < 6) = false := decide_eq_false (by omega)
      have HCF : Hid (∀ W, Below w4.heap.size w4 W → Calls Try.prog 12 #[.string ⟨#[102, 105, 114, 115, 116, 95, 111, 118, 101, 114, 95, 116, 105, 109, 101]⟩, .agg #[.slice (some ⟨b, off, none⟩) (m + 1) cap, .int .i64 F, .int .i64 T, .int .i64 N], .slice none 0 0] W (OptRet (some (at0 (vcs ss) 0)) W)) := fun W hb => by
        have := call_nm .first (some ⟨b, off, none⟩) (m + 1) cap ss F T N none 0 0 [] W (HR4.out.below hb) HNN.out (row_none W)
        rw [MEMB2.out] at this
        exact this
      have HCL : Hid (∀ W, Below w4.heap.size w4 W → Calls Try.prog 12 #[.string ⟨#[108, 97, 115, 116, 95, 111, 118, 101, 114, 95, 116, 105, 109, 101]⟩, .agg #[.slice (some ⟨b, off, none⟩) (m + 1) cap, .int .i64 F, .int .i64 T, .int .i64 N], .slice none 0 0] W (OptRet (some (at0 (vcs ss) m)) W)) := fun W hb => by
        have := call_nm .last (some ⟨b, off, none⟩) (m + 1) cap ss F T N none 0 0 [] W (HR4.out.below hb) HNN.out (row_none W)
        rw [MEMB3.out] at this
        exact this
      have HV0 : Hid (at0 (vcs ss) 0 = cn (vS ss 0)) := at0_vcs ss (by rw [HL.out]; omega)
      have HVM : Hid (at0 (vcs ss) m = cn (vS ss m)) := at0_vcs ss (by rw [HL.out]; omega)
      have HCE : Hid (∀ W, Below w4.heap.size w4 W → ∀ k, k < m + 1 → W.cell? ⟨b, off + k * 3 + 1, none⟩ = some (.float .f64 (vS ss k))) := fun W hb k hk => by
        obtain ⟨b', off', he, hcell⟩ := (HR4.out.below hb).2.2.2 (by omega)
        cases he
        exact (hcell k hk).2.1
      obtain ⟨v0, hv0⟩ : ∃ q, q = vS ss 0 := ⟨_, rfl⟩
      obtain ⟨vm, hvm⟩ : ∃ q, q = vS ss m := ⟨_, rfl⟩
      have E0 := Lib.hid hv0
      have EM := Lib.hid hvm
      rw [← hv0] at HV0
      rw [← hvm] at HVM
      clear hv0 hvm HNM0 HNM1 HNM2 HNM3 HNM4 HNM5
      go_wp2_with (first
        | (go_at_call 12; ((with_reducible refine (HCF.out _ HBW.out).mono ?_); rintro e w5 ⟨r5, rfl, hr5, b5⟩; have B5 := Lib.hid (HBW.out.trans (b5.mono HBW.out.size)); obtain ⟨u0, u1, u2, u3⟩ := win_cells (J4.out.below B5.out J4.out.lt); clear b5 x0 x1 x2 x3))
        | (go_at_call 12; ((with_reducible refine (HCL.out _ B5.out).mono ?_); rintro e w6 ⟨r6, rfl, hr6, b6⟩; have B6 := Lib.hid (B5.out.trans (b6.mono B5.out.size)); obtain ⟨t0, t1, t2, t3⟩ := win_cells (J4.out.below B6.out J4.out.lt); have e0 : w6.cell? ⟨b, off + 1, none⟩ = some (.float .f64 v0) := (by have := HCE.out _ B6.out 0 (by omega); rw [Nat.zero_mul, Nat.add_zero] at this; rw [E0.out]; exact this); have em : w6.cell? ⟨b, off + m * 3 + 1, none⟩ = some (.float .f64 vm) := (by rw [EM.out]; exact HCE.out _ B6.out m (by omega)); have S1 : (cn r5 == cn v0) = true := (by rw [hr5, HV0.out]; simp); have S2 : (cn r6 == cn vm) = true := (by rw [hr6, HVM.out]; simp); clear b6 u0 u1 u2 u3))
        | (go_at_call 17; ((with_reducible refine (same_any r5 v0 _).mono ?_); rintro e w8 ⟨rfl, rfl⟩; rw [S1]))
        | (go_at_call 17; ((with_reducible refine (same_any r6 vm _).mono ?_); rintro e w8 ⟨rfl, rfl⟩; rw [S2])))
      go_ret
      exact ⟨rfl, BX4.out.trans (B6.out.mono BX4.out.size)⟩

theorem law_members (a : Option Addr) (n cap : Nat) (ss : List Smp) (F T N : Int) (w : World) (hr : SRow w a n ss) (hn : n < 5864062014805) :
    Calls Try.prog 7 #[.agg #[.slice a n cap, .int .i64 F, .int .i64 T, .int .i64 N]] w (BoolB true w) := by
  by_cases h2 : n = 0
  · exact members_none a n cap ss F T N w hr hn (.inr h2)
  · cases hs : sndB F T N ss n with
    | false => exact members_none a n cap ss F T N w hr hn (.inl hs)
    | true =>
      obtain ⟨m, rfl⟩ : ∃ m, n = m + 1 := ⟨n - 1, by omega⟩
      exact members_some a m cap ss F T N w hr hn hs
end Go.Proofs.Ytoeldcgclaiokaa
