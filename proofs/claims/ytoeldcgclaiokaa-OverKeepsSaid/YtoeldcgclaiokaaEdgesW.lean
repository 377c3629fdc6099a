/- OverEdges: the walk. -/
import Derived.Test.YtoeldcgclaiokaaNamesB
import Derived.Deep.CutBlock
import Derived.Deep.DeepCutAuto
namespace Go.Proofs.Ytoeldcgclaiokaa
open Go.Fl Go.Rel Go.RowKit
set_option linter.unusedVariables false
set_option linter.unusedSimpArgs false

abbrev winCells (a : Option Addr) (n cap : Nat) (F T N : Int) : Array Value := #[.slice a n cap, .int .i64 F, .int .i64 T, .int .i64 N]
/-- Two windows lie in variables. -/
def TwoW (w0 : World) (a : Option Addr) (n cap : Nat) (F T N F2 T2 N2 : Int) (s3 s4 : Value) (wx : World) : Prop :=
  ∃ R3 R4 : Nat, s3 = .pointer (some ⟨R3, 0, none⟩) ∧ s4 = .pointer (some ⟨R4, 0, none⟩) ∧ Bk.Is wx R3 (winCells a n cap F T N) 30 ∧ Bk.Is wx R4 (winCells a n cap F2 T2 N2) 30 ∧ Below w0.heap.size w0 wx

theorem str_rate (m : Nm) : (m.str.toList == [114, 97, 116, 101]) = decide (m = .rate) := by cases m <;> decide +kernel
theorem str_increase (m : Nm) : (m.str.toList == [105, 110, 99, 114, 101, 97, 115, 101]) = decide (m = .increase) := by cases m <;> decide +kernel
theorem str_delta (m : Nm) : (m.str.toList == [100, 101, 108, 116, 97]) = decide (m = .delta) := by cases m <;> decide +kernel

theorem edges_eq {m : Nm} (h1 : m ≠ .rate) (h2 : m ≠ .increase) (h3 : m ≠ .delta) (h4 : m ≠ .predict) {ss : List Smp} {n k : Nat} {F T N F2 T2 N2 : Int} {qs : List Nat} (s1 : sndB F T N ss n = true) (s2 : sndB F2 T2 N2 ss n = true) : callO m ss n F T N k qs = callO m ss n F2 T2 N2 k qs := by
  unfold callO
  rw [s1, s2]
  have hi : ∀ b, instO ss n F T N b = instO ss n F2 T2 N2 b := fun b => by unfold instO; rw [s1, s2]
  have he : m.cls ss n F T N qs = m.cls ss n F2 T2 N2 qs := by
    cases m <;> first | contradiction | rfl | exact hi _
  rw [he]

theorem keep5 {z w w' : World} {q0 q1 q2 q3 q4 : Addr} {v0 v1 v2 v3 v4 : Value} (h : w.cell? q0 = some v0 ∧ w.cell? q1 = some v1 ∧ w.cell? q2 = some v2 ∧ w.cell? q3 = some v3 ∧ w.cell? q4 = some v4 ∧ Below z.heap.size z w) (hb : Below w.heap.size w w') : w'.cell? q0 = some v0 ∧ w'.cell? q1 = some v1 ∧ w'.cell? q2 = some v2 ∧ w'.cell? q3 = some v3 ∧ w'.cell? q4 = some v4 ∧ Below z.heap.size z w' := by
  obtain ⟨h0, h1, h2, h3, h4, hz⟩ := h
  exact ⟨cell_stay h0 hb, cell_stay h1 hb, cell_stay h2 hb, cell_stay h3 hb, cell_stay h4 hb, hz.trans (hb.mono hz.size)⟩
theorem keepD5 {z w : World} {q0 q1 q2 q3 q4 : Addr} {v0 v1 v2 v3 v4 : Value} (h : w.cell? q0 = some v0 ∧ w.cell? q1 = some v1 ∧ w.cell? q2 = some v2 ∧ w.cell? q3 = some v3 ∧ w.cell? q4 = some v4 ∧ Below z.heap.size z w) : w.drew.cell? q0 = some v0 ∧ w.drew.cell? q1 = some v1 ∧ w.drew.cell? q2 = some v2 ∧ w.drew.cell? q3 = some v3 ∧ w.drew.cell? q4 = some v4 ∧ Below z.heap.size z w.drew := by
  obtain ⟨h0, h1, h2, h3, h4, hz⟩ := h
  exact ⟨h0, h1, h2, h3, h4, hz.drewN' 1⟩
theorem keepA5 {z w : World} {q0 q1 q2 q3 q4 : Addr} {v0 v1 v2 v3 v4 : Value} (h : w.cell? q0 = some v0 ∧ w.cell? q1 = some v1 ∧ w.cell? q2 = some v2 ∧ w.cell? q3 = some v3 ∧ w.cell? q4 = some v4 ∧ Below z.heap.size z w) (o : Obj) : (w.alloc o).cell? q0 = some v0 ∧ (w.alloc o).cell? q1 = some v1 ∧ (w.alloc o).cell? q2 = some v2 ∧ (w.alloc o).cell? q3 = some v3 ∧ (w.alloc o).cell? q4 = some v4 ∧ Below z.heap.size z (w.alloc o) := by
  obtain ⟨h0, h1, h2, h3, h4, hz⟩ := h
  exact ⟨cell_old h0 o, cell_old h1 o, cell_old h2 o, cell_old h3 o, cell_old h4 o, hz.alloc hz.size o⟩
theorem keep9 {z w w' : World} {q0 q1 q2 q3 q4 q5 q6 q7 q8 : Addr} {v0 v1 v2 v3 v4 v5 v6 v7 v8 : Value} (h : w.cell? q0 = some v0 ∧ w.cell? q1 = some v1 ∧ w.cell? q2 = some v2 ∧ w.cell? q3 = some v3 ∧ w.cell? q4 = some v4 ∧ w.cell? q5 = some v5 ∧ w.cell? q6 = some v6 ∧ w.cell? q7 = some v7 ∧ w.cell? q8 = some v8 ∧ Below z.heap.size z w) (hb : Below w.heap.size w w') : w'.cell? q0 = some v0 ∧ w'.cell? q1 = some v1 ∧ w'.cell? q2 = some v2 ∧ w'.cell? q3 = some v3 ∧ w'.cell? q4 = some v4 ∧ w'.cell? q5 = some v5 ∧ w'.cell? q6 = some v6 ∧ w'.cell? q7 = some v7 ∧ w'.cell? q8 = some v8 ∧ Below z.heap.size z w' := by
  obtain ⟨h0, h1, h2, h3, h4, h5, h6, h7, h8, hz⟩ := h
  exact ⟨cell_stay h0 hb, cell_stay h1 hb, cell_stay h2 hb, cell_stay h3 hb, cell_stay h4 hb, cell_stay h5 hb, cell_stay h6 hb, cell_stay h7 hb, cell_stay h8 hb, hz.trans (hb.mono hz.size)⟩
theorem keepD9 {z w : World} {q0 q1 q2 q3 q4 q5 q6 q7 q8 : Addr} {v0 v1 v2 v3 v4 v5 v6 v7 v8 : Value} (h : w.cell? q0 = some v0 ∧ w.cell? q1 = some v1 ∧ w.cell? q2 = some v2 ∧ w.cell? q3 = some v3 ∧ w.cell? q4 = some v4 ∧ w.cell? q5 = some v5 ∧ w.cell? q6 = some v6 ∧ w.cell? q7 = some v7 ∧ w.cell? q8 = some v8 ∧ Below z.heap.size z w) : w.drew.cell? q0 = some v0 ∧ w.drew.cell? q1 = some v1 ∧ w.drew.cell? q2 = some v2 ∧ w.drew.cell? q3 = some v3 ∧ w.drew.cell? q4 = some v4 ∧ w.drew.cell? q5 = some v5 ∧ w.drew.cell? q6 = some v6 ∧ w.drew.cell? q7 = some v7 ∧ w.drew.cell? q8 = some v8 ∧ Below z.heap.size z w.drew := by
  obtain ⟨h0, h1, h2, h3, h4, h5, h6, h7, h8, hz⟩ := h
  exact ⟨h0, h1, h2, h3, h4, h5, h6, h7, h8, hz.drewN' 1⟩
theorem keepA9 {z w : World} {q0 q1 q2 q3 q4 q5 q6 q7 q8 : Addr} {v0 v1 v2 v3 v4 v5 v6 v7 v8 : Value} (h : w.cell? q0 = some v0 ∧ w.cell? q1 = some v1 ∧ w.cell? q2 = some v2 ∧ w.cell? q3 = some v3 ∧ w.cell? q4 = some v4 ∧ w.cell? q5 = some v5 ∧ w.cell? q6 = some v6 ∧ w.cell? q7 = some v7 ∧ w.cell? q8 = some v8 ∧ Below z.heap.size z w) (o : Obj) : (w.alloc o).cell? q0 = some v0 ∧ (w.alloc o).cell? q1 = some v1 ∧ (w.alloc o).cell? q2 = some v2 ∧ (w.alloc o).cell? q3 = some v3 ∧ (w.alloc o).cell? q4 = some v4 ∧ (w.alloc o).cell? q5 = some v5 ∧ (w.alloc o).cell? q6 = some v6 ∧ (w.alloc o).cell? q7 = some v7 ∧ (w.alloc o).cell? q8 = some v8 ∧ Below z.heap.size z (w.alloc o) := by
  obtain ⟨h0, h1, h2, h3, h4, h5, h6, h7, h8, hz⟩ := h
  exact ⟨cell_old h0 o, cell_old h1 o, cell_old h2 o, cell_old h3 o, cell_old h4 o, cell_old h5 o, cell_old h6 o, cell_old h7 o, cell_old h8 o, hz.alloc hz.size o⟩

theorem TwoW.below {w0 : World} {a : Option Addr} {n cap : Nat} {F T N F2 T2 N2 : Int} {s3 s4 : Value} {wx wy : World} (h : TwoW w0 a n cap F T N F2 T2 N2 s3 s4 wx) (hb : Below wx.heap.size wx wy) : TwoW w0 a n cap F T N F2 T2 N2 s3 s4 wy := by
  obtain ⟨R3, R4, h1, h2, h3, h4, h5⟩ := h
  exact ⟨R3, R4, h1, h2, h3.below hb h3.lt, h4.below hb h4.lt, h5.trans (hb.mono h5.size)⟩
theorem win_cells {W : World} {R : Nat} {a : Option Addr} {n cap : Nat} {F T N : Int} (h : Bk.Is W R (winCells a n cap F T N) 30) :
    W.cell? ⟨R, 0, none⟩ = some (.slice a n cap) ∧ W.cell? ⟨R, 1, none⟩ = some (.int .i64 F) ∧ W.cell? ⟨R, 2, none⟩ = some (.int .i64 T) ∧ W.cell? ⟨R, 3, none⟩ = some (.int .i64 N) :=
  ⟨by rw [h.cell]; rfl, by rw [h.cell]; rfl, by rw [h.cell]; rfl, by rw [h.cell]; rfl⟩
theorem same_z : (cn 0 == cn 0) = true := by simp

set_option maxHeartbeats 8000000 in
set_option maxRecDepth 100000 in
theorem law_edges (a : Option Addr) (n cap : Nat) (ss : List Smp) (F T N F2 T2 N2 : Int) (w : World) (hr : SRow w a n ss) (hn : n < 17592186044416) :
    Calls Try.prog 6 #[.agg #[.slice a n cap, .int .i64 F, .int .i64 T, .int .i64 N, .int .i64 F2, .int .i64 T2, .int .i64 N2]] w (BoolB true w) := by
  have HA := Lib.hid (alive_any)
  have HN := Lib.hid (names_any)
  obtain ⟨w0, hw0⟩ : ∃ w0, w0 = w.alloc (.cells #[.slice a n cap, .int .i64 F, .int .i64 T, .int .i64 N, .int .i64 F2, .int .i64 T2, .int .i64 N2] 42) := ⟨_, rfl⟩
  have HI0 : Hid (Bk.Is w0 w.heap.size #[.slice a n cap, .int .i64 F, .int .i64 T, .int .i64 N, .int .i64 F2, .int .i64 T2, .int .i64 N2] 42) := by show Bk.Is _ _ _ _; rw [hw0]; exact Bk.Is.made w _ _
  have HB0 : Hid (Below w.heap.size w w0) := by show Below _ _ _; rw [hw0]; exact (Below.refl _ _).alloc (Nat.le_refl _) _
  have HR := Lib.hid hr
  have HW0 := Lib.hid hw0
  clear hr hw0
  go_enter Try.func6, Try.ntmps6
  go_upto_region 3 with (go_at_call 10; rw [← HW0.out]; ((with_reducible refine (HA.out _).mono ?_); rintro e w1 ⟨rfl, b1⟩; have B1 := Lib.hid b1; have I1 := HI0.out.below b1 HI0.out.lt; clear b1))
  go_cut [3, 4] (fun s3 s4 wx => TwoW w1 a n cap F T N F2 T2 N2 s3 s4 wx)
  case first =>
    have c0 : w1.cell? ⟨w.heap.size, 0, none⟩ = some (.slice a n cap) := by rw [I1.cell]; rfl
    have c1 : w1.cell? ⟨w.heap.size, 1, none⟩ = some (.int .i64 F) := by rw [I1.cell]; rfl
    have c2 : w1.cell? ⟨w.heap.size, 2, none⟩ = some (.int .i64 T) := by rw [I1.cell]; rfl
    have c3 : w1.cell? ⟨w.heap.size, 3, none⟩ = some (.int .i64 N) := by rw [I1.cell]; rfl
    have c4 : w1.cell? ⟨w.heap.size, 4, none⟩ = some (.int .i64 F2) := by rw [I1.cell]; rfl
    have c5 : w1.cell? ⟨w.heap.size, 5, none⟩ = some (.int .i64 T2) := by rw [I1.cell]; rfl
    have c6 : w1.cell? ⟨w.heap.size, 6, none⟩ = some (.int .i64 N2) := by rw [I1.cell]; rfl
    go_region_held3 (fun w' => w'.cell? ⟨w.heap.size, 0, none⟩ = some (.slice a n cap) ∧ w'.cell? ⟨w.heap.size, 1, none⟩ = some (.int .i64 F) ∧ w'.cell? ⟨w.heap.size, 2, none⟩ = some (.int .i64 T) ∧ w'.cell? ⟨w.heap.size, 3, none⟩ = some (.int .i64 N) ∧ w'.cell? ⟨w.heap.size, 4, none⟩ = some (.int .i64 F2) ∧ w'.cell? ⟨w.heap.size, 5, none⟩ = some (.int .i64 T2) ∧ w'.cell? ⟨w.heap.size, 6, none⟩ = some (.int .i64 N2)) (go_keep) (fail)
    · go_wp2_with fail
      go_meet
      have e : (w1.alloc (.cells (winCells a n cap F T N) 30)).heap.size = w1.heap.size + 1 := by simp
      exact ⟨w1.heap.size, w1.heap.size + 1, rfl, rfl, (Bk.Is.made w1 _ _).alloc _, by rw [← e]; exact Bk.Is.made _ _ _, (((Below.refl _ _).alloc (Nat.le_refl _) _).alloc (by simp) _).drewN' 1⟩
    · go_wp2_with fail
      go_meet
      have e : (w1.alloc (.cells (winCells a n cap F2 T2 N2) 30)).heap.size = w1.heap.size + 1 := by simp
      exact ⟨w1.heap.size + 1, w1.heap.size, rfl, rfl, by rw [← e]; exact Bk.Is.made _ _ _, (Bk.Is.made w1 _ _).alloc _, (((Below.refl _ _).alloc (Nat.le_refl _) _).alloc (by simp) _).drewN' 1⟩
  case rest =>
    obtain ⟨wx, h⟩ : ∃ wx, wx = wc := ⟨_, rfl⟩
    rw [← h] at hcut ⊢
    clear h
    obtain ⟨R3, R4, rfl, rfl, I3, I4, bx⟩ := hcut
    have BX := Lib.hid (HB0.out.trans ((B1.out.trans (bx.mono B1.out.size)).mono HB0.out.size))
    have HI3 := Lib.hid I3
    have HI4 := Lib.hid I4
    obtain ⟨x30, x31, x32, x33⟩ := win_cells I3
    clear I1 I3 I4 bx
    have HM1 : Hid (∀ W, Below w.heap.size w W → Calls Try.prog 20 #[.agg #[.slice a n cap, .int .i64 F, .int .i64 T, .int .i64 N]] W (BoolB (sndB F T N ss n) W)) := fun W hb => made_any a n cap ss F T N W (HR.out.below hb) hn
    have HM2 : Hid (∀ W, Below w.heap.size w W → Calls Try.prog 20 #[.agg #[.slice a n cap, .int .i64 F2, .int .i64 T2, .int .i64 N2]] W (BoolB (sndB F2 T2 N2 ss n) W)) := fun W hb => made_any a n cap ss F2 T2 N2 W (HR.out.below hb) hn
    cases hs1 : sndB F T N ss n with
    | false =>
      rw [hs1] at HM1
      clear hs1
      go_wp2_with (go_at_call 20; ((with_reducible refine (HM1.out _ BX.out).mono ?_); rintro e w3 ⟨rfl, b3⟩))
      go_ret
      exact ⟨rfl, BX.out.trans (b3.mono BX.out.size)⟩
    | true =>
      rw [hs1] at HM1
      cases hs2 : sndB F2 T2 N2 ss n with
      | false =>
        rw [hs2] at HM2
        clear hs1 hs2
        go_wp2_with (first
          | (go_at_call 20; ((with_reducible refine (HM1.out _ BX.out).mono ?_); rintro e w3 ⟨rfl, b3⟩; have BX3 := Lib.hid (BX.out.trans (b3.mono BX.out.size)); obtain ⟨x40, x41, x42, x43⟩ := win_cells (HI4.out.below b3 HI4.out.lt); clear b3))
          | (go_at_call 20; ((with_reducible refine (HM2.out _ BX3.out).mono ?_); rintro e w4 ⟨rfl, b4⟩)))
        go_ret
        exact ⟨rfl, BX3.out.trans (b4.mono BX3.out.size)⟩
      | true =>
        rw [hs2] at HM2
        have HEQ : Hid (∀ m : Nm, m ≠ .rate → m ≠ .increase → m ≠ .delta → m ≠ .predict → ∀ k qs, callO m ss n F T N k qs = callO m ss n F2 T2 N2 k qs) := fun m h1 h2 h3 h4 k qs => edges_eq h1 h2 h3 h4 hs1 hs2
        clear hs1 hs2
        go_upto_block 0 with (first
          | (go_at_call 20; ((with_reducible refine (HM1.out _ BX.out).mono ?_); rintro e w3 ⟨rfl, b3⟩; have BX3 := Lib.hid (BX.out.trans (b3.mono BX.out.size)); have HI33 := Lib.hid (HI3.out.below b3 HI3.out.lt); have HI43 := Lib.hid (HI4.out.below b3 HI4.out.lt); obtain ⟨x40, x41, x42, x43⟩ := win_cells HI43.out; clear b3))
          | (go_at_call 20; ((with_reducible refine (HM2.out _ BX3.out).mono ?_); rintro e w4 ⟨rfl, b4⟩; have BX4 := Lib.hid (BX3.out.trans (b4.mono BX3.out.size)); have HI34 := Lib.hid (HI33.out.below b4 HI33.out.lt); have HI44 := Lib.hid (HI43.out.below b4 HI43.out.lt); clear b4))
          | (go_at_call 11; ((with_reducible refine (HN.out _).mono ?_); rintro e w2 ⟨B, rfl, hB, hnm, b2⟩; have B2 := Lib.hid (BX4.out.trans (b2.mono BX4.out.size)); have NM : Hid (NamesAt B w2) := hnm; have J3 := Lib.hid (HI34.out.below b2 HI34.out.lt); have J4 := Lib.hid (HI44.out.below b2 HI44.out.lt); clear hB hnm b2)))
        clear x30 x31 x32 x33 x40 x41 x42 x43
        have HR2 := Lib.hid (HR.out.below B2.out)
        go_wp2_with fail
        go_loopw [6] (ORel 23 w2) (fun vi _ => 23 - (intOf vi).toNat)
        case atStart => exact ⟨0, by omega, rfl, Below.refl _ _⟩
        case round =>
          obtain ⟨i, hi, rfl, bw⟩ := hrel
          by_cases hin : i < 23
          · obtain ⟨m, hm⟩ : ∃ m, m = nmAt i := ⟨_, rfl⟩
            have HBW := Lib.hid bw
            have hci : wr.cell? ⟨B, i, none⟩ = some (.string m.str) := by rw [hm]; exact (NM.out.below bw) i hin
            obtain ⟨x30, x31, x32, x33⟩ := win_cells (J3.out.below bw J3.out.lt)
            obtain ⟨x40, x41, x42, x43⟩ := win_cells (J4.out.below bw J4.out.lt)
            have hst := And.intro hci (And.intro x30 (And.intro x31 (And.intro x32 (And.intro x33 (And.intro x40 (And.intro x41 (And.intro x42 (And.intro x43 bw))))))))
            have HBD := Lib.hid (keepD9 hst).2.2.2.2.2.2.2.2.2
            clear bw hm
            have q1 := str_rate m
            have q2 := str_increase m
            have q3 := str_delta m
            have q4 := str_predict m
            have ib : (i : Int) < 23 := by omega
            have ib0 : (0 : Int) ≤ (i : Int) := by omega
            have kind : m = .rate ∨ m = .increase ∨ m = .delta ∨ m = .predict ∨ (m ≠ .rate ∧ m ≠ .increase ∧ m ≠ .delta ∧ m ≠ .predict) := by cases m <;> decide
            rcases kind with hm | hm | hm | hm | ⟨h1, h2, h3, h4⟩
            · rw [decide_eq_true hm] at q1
              clear hm
              go_wp2_with fail
              go_roundw
              case rel => exact ⟨i + 1, by omega, by go_num, HBW.out⟩
              case measure => simp [intOf]; omega
            · rw [decide_eq_true hm] at q2
              rw [decide_eq_false (by subst hm; decide)] at q1
              clear hm
              go_wp2_with fail
              go_roundw
              case rel => exact ⟨i + 1, by omega, by go_num, HBW.out⟩
              case measure => simp [intOf]; omega
            · rw [decide_eq_true hm] at q3
              rw [decide_eq_false (by subst hm; decide)] at q1
              rw [decide_eq_false (by subst hm; decide)] at q2
              clear hm
              go_wp2_with fail
              go_roundw
              case rel => exact ⟨i + 1, by omega, by go_num, HBW.out⟩
              case measure => simp [intOf]; omega
            · rw [decide_eq_true hm] at q4
              rw [decide_eq_false (by subst hm; decide)] at q1
              rw [decide_eq_false (by subst hm; decide)] at q2
              rw [decide_eq_false (by subst hm; decide)] at q3
              clear hm
              go_wp2_with fail
              go_roundw
              case rel => exact ⟨i + 1, by omega, by go_num, HBW.out⟩
              case measure => simp [intOf]; omega
            · have HEQM := Lib.hid (HEQ.out m h1 h2 h3 h4)
              rw [decide_eq_false h1] at q1
              rw [decide_eq_false h2] at q2
              rw [decide_eq_false h3] at q3
              rw [decide_eq_false h4] at q4
              clear h1 h2 h3 h4
              obtain ⟨o, ho⟩ : ∃ o, o = callO m ss n F T N m.nums ((qsOf m 4598175219545276416 4602678819172646912).map cn) := ⟨_, rfl⟩
              have HNUM := Lib.hid (numbers_any m 4598175219545276416 4602678819172646912)
              have HC1 : Hid (∀ W aa, Below w2.heap.size w2 W → Row W aa m.nums (qsOf m 4598175219545276416 4602678819172646912) → Calls Try.prog 12 #[.string m.str, .agg #[.slice a n cap, .int .i64 F, .int .i64 T, .int .i64 N], .slice aa m.nums m.nums] W (OptRet o W)) := fun W aa hb h => by
                rw [ho]; exact call_nm m a n cap ss F T N aa m.nums m.nums _ W (HR2.out.below hb) hn h
              have HC2 : Hid (∀ W aa, Below w2.heap.size w2 W → Row W aa m.nums (qsOf m 4598175219545276416 4602678819172646912) → Calls Try.prog 12 #[.string m.str, .agg #[.slice a n cap, .int .i64 F2, .int .i64 T2, .int .i64 N2], .slice aa m.nums m.nums] W (OptRet o W)) := fun W aa hb h => by
                rw [ho, HEQM.out]; exact call_nm m a n cap ss F2 T2 N2 aa m.nums m.nums _ W (HR2.out.below hb) hn h
              clear ho
              cases o with
              | none =>
                go_wp2_with fail
                go_region_held3 (fun w' => w'.cell? ⟨B, i, none⟩ = some (.string m.str) ∧ w'.cell? ⟨R3, 0, none⟩ = some (.slice a n cap) ∧ w'.cell? ⟨R3, 1, none⟩ = some (.int .i64 F) ∧ w'.cell? ⟨R3, 2, none⟩ = some (.int .i64 T) ∧ w'.cell? ⟨R3, 3, none⟩ = some (.int .i64 N) ∧ w'.cell? ⟨R4, 0, none⟩ = some (.slice a n cap) ∧ w'.cell? ⟨R4, 1, none⟩ = some (.int .i64 F2) ∧ w'.cell? ⟨R4, 2, none⟩ = some (.int .i64 T2) ∧ w'.cell? ⟨R4, 3, none⟩ = some (.int .i64 N2) ∧ Below w2.heap.size w2 w') (first | assumption | exact keep9 (by assumption) (by assumption) | exact keepD9 (by assumption)) (first
                  | (go_at_call 22; ((with_reducible refine (HNUM.out _).mono ?_); rintro e w4 ⟨aa, rfl, hrow, b4⟩; have HROWw4 := Lib.hid hrow; clear hrow))
                  | (go_at_call 12; ((with_reducible refine (HC1.out _ _ (HBD.out.trans (b4.mono HBD.out.size)) HROWw4.out).mono ?_); rintro e w5 ⟨rfl, b5⟩)))
                rename_i hHeld
                have HH := Lib.hid hHeld
                have HBD2 := Lib.hid (keepD9 hHeld).2.2.2.2.2.2.2.2.2
                clear hHeld
                have hst2 := HH.out
                go_wp2_with fail
                go_region_held3 (fun w' => w'.cell? ⟨B, i, none⟩ = some (.string m.str) ∧ w'.cell? ⟨R3, 0, none⟩ = some (.slice a n cap) ∧ w'.cell? ⟨R3, 1, none⟩ = some (.int .i64 F) ∧ w'.cell? ⟨R3, 2, none⟩ = some (.int .i64 T) ∧ w'.cell? ⟨R3, 3, none⟩ = some (.int .i64 N) ∧ w'.cell? ⟨R4, 0, none⟩ = some (.slice a n cap) ∧ w'.cell? ⟨R4, 1, none⟩ = some (.int .i64 F2) ∧ w'.cell? ⟨R4, 2, none⟩ = some (.int .i64 T2) ∧ w'.cell? ⟨R4, 3, none⟩ = some (.int .i64 N2) ∧ Below w2.heap.size w2 w') (first | assumption | exact keep9 (by assumption) (by assumption) | exact keepD9 (by assumption)) (first
                  | (go_at_call 22; ((with_reducible refine (HNUM.out _).mono ?_); rintro e w6 ⟨ab, rfl, hrow, b6⟩; have HROWw6 := Lib.hid hrow; clear hrow))
                  | (go_at_call 12; ((with_reducible refine (HC2.out _ _ (HBD2.out.trans (b6.mono HBD2.out.size)) HROWw6.out).mono ?_); rintro e w7 ⟨rfl, b7⟩)))
                rename_i hHeld2
                have HBE := Lib.hid hHeld2.2.2.2.2.2.2.2.2.2
                clear hHeld2 hst2 HH
                have HSM := same_z
                go_wp2_with (go_at_call 17; ((with_reducible refine (same_any _ _ _).mono ?_); rintro e w8 ⟨rfl, rfl⟩; rw [HSM]))
                go_roundw
                case rel => exact ⟨i + 1, by omega, by go_num, HBE.out⟩
                case measure => simp [intOf]; omega
              | some c =>
                go_wp2_with fail
                go_region_held3 (fun w' => w'.cell? ⟨B, i, none⟩ = some (.string m.str) ∧ w'.cell? ⟨R3, 0, none⟩ = some (.slice a n cap) ∧ w'.cell? ⟨R3, 1, none⟩ = some (.int .i64 F) ∧ w'.cell? ⟨R3, 2, none⟩ = some (.int .i64 T) ∧ w'.cell? ⟨R3, 3, none⟩ = some (.int .i64 N) ∧ w'.cell? ⟨R4, 0, none⟩ = some (.slice a n cap) ∧ w'.cell? ⟨R4, 1, none⟩ = some (.int .i64 F2) ∧ w'.cell? ⟨R4, 2, none⟩ = some (.int .i64 T2) ∧ w'.cell? ⟨R4, 3, none⟩ = some (.int .i64 N2) ∧ Below w2.heap.size w2 w') (first | assumption | exact keep9 (by assumption) (by assumption) | exact keepD9 (by assumption)) (first
                  | (go_at_call 22; ((with_reducible refine (HNUM.out _).mono ?_); rintro e w4 ⟨aa, rfl, hrow, b4⟩; have HROWw4 := Lib.hid hrow; clear hrow))
                  | (go_at_call 12; ((with_reducible refine (HC1.out _ _ (HBD.out.trans (b4.mono HBD.out.size)) HROWw4.out).mono ?_); rintro e w5 ⟨r, rfl, hr1, b5⟩)))
                rename_i hHeld
                have HH := Lib.hid hHeld
                have HBD2 := Lib.hid (keepD9 hHeld).2.2.2.2.2.2.2.2.2
                clear hHeld
                have hst2 := HH.out
                go_wp2_with fail
                go_region_held3 (fun w' => w'.cell? ⟨B, i, none⟩ = some (.string m.str) ∧ w'.cell? ⟨R3, 0, none⟩ = some (.slice a n cap) ∧ w'.cell? ⟨R3, 1, none⟩ = some (.int .i64 F) ∧ w'.cell? ⟨R3, 2, none⟩ = some (.int .i64 T) ∧ w'.cell? ⟨R3, 3, none⟩ = some (.int .i64 N) ∧ w'.cell? ⟨R4, 0, none⟩ = some (.slice a n cap) ∧ w'.cell? ⟨R4, 1, none⟩ = some (.int .i64 F2) ∧ w'.cell? ⟨R4, 2, none⟩ = some (.int .i64 T2) ∧ w'.cell? ⟨R4, 3, none⟩ = some (.int .i64 N2) ∧ Below w2.heap.size w2 w') (first | assumption | exact keep9 (by assumption) (by assumption) | exact keepD9 (by assumption)) (first
                  | (go_at_call 22; ((with_reducible refine (HNUM.out _).mono ?_); rintro e w6 ⟨ab, rfl, hrow, b6⟩; have HROWw6 := Lib.hid hrow; clear hrow))
                  | (go_at_call 12; ((with_reducible refine (HC2.out _ _ (HBD2.out.trans (b6.mono HBD2.out.size)) HROWw6.out).mono ?_); rintro e w7 ⟨r2, rfl, hr2, b7⟩)))
                rename_i hHeld2
                have HBE := Lib.hid hHeld2.2.2.2.2.2.2.2.2.2
                clear hHeld2 hst2 HH
                have HSM : (cn r == cn r2) = true := by rw [hr1, hr2]; simp
                go_wp2_with (go_at_call 17; ((with_reducible refine (same_any _ _ _).mono ?_); rintro e w8 ⟨rfl, rfl⟩; rw [HSM]))
                go_roundw
                case rel => exact ⟨i + 1, by omega, by go_num, HBE.out⟩
                case measure => simp [intOf]; omega
          · obtain rfl : i = 23 := by omega
            go_wp2_with fail
            go_ret
            exact ⟨rfl, B2.out.trans (bw.mono B2.out.size)⟩
end Go.Proofs.Ytoeldcgclaiokaa
