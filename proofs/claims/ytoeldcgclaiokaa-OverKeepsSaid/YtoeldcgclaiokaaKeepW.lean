/- OverKeeps: the walk. -/
import Derived.Test.YtoeldcgclaiokaaKeepB
import Derived.Test.YtoeldcgclaiokaaOpenWin
import Derived.Deep.RegionHeld3
import Derived.Deep.RegionWith
import Derived.Deep.CutBlock
import Derived.Deep.DeepCutAuto
namespace Go.Proofs.Ytoeldcgclaiokaa
open Go.Fl Go.Rel Go.RowKit
set_option linter.unusedVariables false
set_option linter.unusedSimpArgs false

theorem keep2 {z w w' : World} {q0 q1 : Addr} {v0 v1 : Value} (h : w.cell? q0 = some v0 ∧ w.cell? q1 = some v1 ∧ Below z.heap.size z w) (hb : Below w.heap.size w w') : w'.cell? q0 = some v0 ∧ w'.cell? q1 = some v1 ∧ Below z.heap.size z w' := by
  obtain ⟨h0, h1, hz⟩ := h
  exact ⟨cell_stay h0 hb, cell_stay h1 hb, hz.trans (hb.mono hz.size)⟩
theorem keepD2 {z w : World} {q0 q1 : Addr} {v0 v1 : Value} (h : w.cell? q0 = some v0 ∧ w.cell? q1 = some v1 ∧ Below z.heap.size z w) : w.drew.cell? q0 = some v0 ∧ w.drew.cell? q1 = some v1 ∧ Below z.heap.size z w.drew := by
  obtain ⟨h0, h1, hz⟩ := h
  exact ⟨h0, h1, hz.drewN' 1⟩
theorem keepA2 {z w : World} {q0 q1 : Addr} {v0 v1 : Value} (h : w.cell? q0 = some v0 ∧ w.cell? q1 = some v1 ∧ Below z.heap.size z w) (o : Obj) : (w.alloc o).cell? q0 = some v0 ∧ (w.alloc o).cell? q1 = some v1 ∧ Below z.heap.size z (w.alloc o) := by
  obtain ⟨h0, h1, hz⟩ := h
  exact ⟨cell_old h0 o, cell_old h1 o, hz.alloc hz.size o⟩

def mk : Smp := ⟨-7, 4619567317775286272, true⟩
def qz : List Nat := [4635118810238550016, 4635189178982727680]

/-- A value and whether there is one. -/
def OptW (bo : Bool) (oc : Nat) (w : World) (e : Ending) (w' : World) : Prop := ∃ r, e = .returned (.tuple #[.float .f64 r, .bool bo]) ∧ cn r = oc ∧ Below w.heap.size w w'
theorem OptRet.optW {o : Option Nat} {w : World} {e : Ending} {w' : World} (h : OptRet o w e w') : OptW o.isSome (o.getD 0) w e w' := by
  cases o with
  | none => exact ⟨0, h.1, cn_zero, h.2⟩
  | some c => exact h
theorem same_quiet {x y : Nat} {b : Bool} (h : (cn x == cn y) = b) (w : World) (n : Nat) : Calls Try.prog 17 #[.float .f64 x, .float .f64 y] (w.drewN n) fun e w'' => e = .returned (.bool b) ∧ ∃ m, w'' = w.drewN m :=
  (same_any x y _).mono fun e w' ⟨he, hw⟩ => ⟨by rw [he, h], n, hw.symm⟩

theorem marks_cells (W : World) : ∀ j u, (smpCells mk ++ smpCells mk)[j]? = some u → (W.alloc (.cells #[.int .i64 (-7), .float .f64 4619567317775286272, .bool true, .int .i64 (-7), .float .f64 4619567317775286272, .bool true] 45)).cell? ⟨W.heap.size, j, none⟩ = some u := by
  intro j u h
  rw [(Bk.Is.made W _ _).cell, ← Array.getElem?_toList]
  exact h
theorem is_grown {w w' : World} {B : Nat} {cs : Array Value} {t : TypeId} {row : Option Nat} (h : Bk.Is w B cs t) (hg : w.grownBy w' row) (hne : some B ≠ row) : Bk.Is w' B cs t := by
  unfold Bk.Is at *
  rw [hg.block B (Bk.Is.lt h) hne]; exact h
theorem OwnS.block_lt {B : Nat} {w : World} {v : Value} {ss : List Smp} (h : OwnS B w v ss) {k : Nat} (hk : w.heap.size ≤ k) : some k ≠ v.ownBlock := fun e => by
  have := (World.ownsRow.lt h k e.symm).2
  omega
theorem is_inj {w : World} {B : Nat} {cs ds : Array Value} {t u : TypeId} (h : Bk.Is w B cs t) (h2 : Bk.Is w B ds u) : cs = ds ∧ t = u := by
  unfold Bk.Is at *
  rw [h] at h2
  injection h2 with h2
  injection h2 with e1 e2
  exact ⟨e1, e2⟩
theorem own_some {B : Nat} {w : World} {v : Value} {ys : List Nat} (h : Own B w v ys) (hn : 0 < ys.length) : ∃ g cap, v = .slice (some ⟨g, 0, none⟩) ys.length cap ∧ Row w (some ⟨g, 0, none⟩) ys.length ys ∧ B ≤ g ∧ ys.length ≤ cap := by
  obtain ⟨a, c, hv, hr⟩ := h.row
  obtain ⟨h1, h2⟩ := h
  rcases h2 with ⟨_, h0⟩ | ⟨g, cap, cur, e1, hg, _, hle, _⟩
  · omega
  · rw [hv] at e1
    injection e1 with e1 e2 e3
    subst e1 e3
    exact ⟨g, c, hv, hr, hg, hle⟩
theorem qs_len (m : Nm) (x y : Nat) : (qsOf m x y).length = m.nums := by cases m <;> rfl
theorem nums_le (m : Nm) : m.nums ≤ 2 := by cases m <;> decide
theorem row_first {w : World} {g k : Nat} {xs ys : List Nat} (h : Row w (some ⟨g, 0, none⟩) (k + 2) (xs ++ ys)) (hk : xs.length = k) : Row w (some ⟨g, 0, none⟩) k xs := by
  have := h.take (k := k) (by omega)
  rwa [show (xs ++ ys).take k = xs by rw [← hk]; simp] at this
theorem bnd_app {ss : List Smp} (h : BndS ss) : BndS (ss ++ [mk, mk]) := fun i => by
  by_cases h1 : i < ss.length
  · unfold tS; rw [sAt_app _ h1]; exact h i
  · by_cases h2 : i < ss.length + 2
    · unfold tS sAt
      rw [List.getD, List.getElem?_append_right (by omega)]
      match hh : i - ss.length, (show i - ss.length < 2 by omega) with
      | 0, _ => simp [mk]
      | 1, _ => simp [mk]
    · rw [tS_out _ (by simp; omega)]; omega
theorem take_app (ss zs : List Smp) {n : Nat} (h : ss.length = n) : (ss ++ zs).take n = ss := by rw [← h]; simp

def KpRel (w0 : World) (n c2 : Nat) (F T N : Int) (R9 R10 g2 g3 k : Nat) (xs : List Nat) (vi : Value) (wr : World) : Prop :=
  ∃ (j : Nat) (l : List Smp), j ≤ n ∧ vi = .int .i64 (j : Int) ∧ BndS l ∧ l.length = n + 2 ∧ KS w0 n c2 F T N R9 R10 g2 g3 k l xs wr

set_option maxHeartbeats 16000000 in
set_option maxRecDepth 1000000 in
theorem law_keeps (a : Option Addr) (n cap : Nat) (ss : List Smp) (F T N : Int) (av bv : Nat) (w : World) (hr : SRow w a n ss) (hn : n < 5864062014790) (hF : I64 F) (hT : I64 T) (hN : I64 N) :
    Calls Try.prog 9 #[.agg #[.slice a n cap, .int .i64 F, .int .i64 T, .int .i64 N], .float .f64 av, .float .f64 bv] w (BoolB true w) := by
  have HA := Lib.hid (alive_any)
  have HNM := Lib.hid (names_any)
  obtain ⟨w0, hw0⟩ : ∃ w0, w0 = w.alloc (.cells #[.slice a n cap, .int .i64 F, .int .i64 T, .int .i64 N] 30) := ⟨_, rfl⟩
  have HI0 : Hid (Bk.Is w0 w.heap.size (winCells a n cap F T N) 30) := by show Bk.Is _ _ _ _; rw [hw0]; exact Bk.Is.made w _ _
  have HB0 : Hid (Below w.heap.size w w0) := by show Below _ _ _; rw [hw0]; exact (Below.refl _ _).alloc (Nat.le_refl _) _
  have HBS : Hid (BndS ss) := hr.2.2.1
  have HR := Lib.hid hr
  have HL := Lib.hid hr.1
  have HNN := Lib.hid hn
  have HW0 := Lib.hid hw0
  have HCP : Hid (∀ W, Below w.heap.size w W → Calls Try.prog 21 #[.agg #[.slice a n cap, .int .i64 F, .int .i64 T, .int .i64 N], .int .i64 0] W (CopyRet 0 ss F T N W)) := fun W hb => copied_any a n cap ss F T N 0 W (hr.below hb) (by omega)
  have EF := wrap0 hF
  have ET := wrap0 hT
  have EN := wrap0 hN
  have E0 := cp0 hr.2.2.1
  have HE := Lib.hid (And.intro EF (And.intro ET (And.intro EN E0)))
  clear hr hw0 hn hF hT hN EF ET EN E0
  go_enter Try.func9, Try.ntmps9
  go_upto_block 0 with (first
    | (go_at_call 10; rw [← HW0.out]; ((with_reducible refine (HA.out _).mono ?_); rintro e w1 ⟨rfl, b1⟩; have BX := Lib.hid (HB0.out.trans (b1.mono HB0.out.size)); have J1 := Lib.hid (HI0.out.below b1 HI0.out.lt); clear b1))
    | (go_at_call 11; ((with_reducible refine (HNM.out _).mono ?_); rintro e w2 ⟨B, rfl, hB, hnm, b2⟩; have B2 := Lib.hid (BX.out.trans (b2.mono BX.out.size)); have NM : Hid (NamesAt B w2) := hnm; have J2 := Lib.hid (J1.out.below b2 J1.out.lt); clear hB hnm b2)))
  have HR2 := Lib.hid (HR.out.below B2.out)
  go_wp2_with fail
  go_loopw [8] (ORel 23 w2) (fun vi _ => 23 - (intOf vi).toNat)
  case atStart => exact ⟨0, by omega, rfl, Below.refl _ _⟩
  case round =>
    obtain ⟨i, hi, rfl, bw⟩ := hrel
    by_cases hin : i < 23
    · obtain ⟨m, hm⟩ : ∃ m, m = nmAt i := ⟨_, rfl⟩
      have HBW := Lib.hid bw
      have HCI : Hid (∀ W, Below w2.heap.size w2 W → W.cell? ⟨B, i, none⟩ = some (.string m.str)) := fun W hb => by rw [hm]; exact (NM.out.below hb) i hin
      have ib : (i : Int) < 23 := by omega
      have ib0 : (0 : Int) ≤ (i : Int) := by omega
      have dd : decide ((i : Int) < 23) = true := decide_eq_true ib
      obtain ⟨x30, x31, x32, x33⟩ := win_cells (J2.out.below bw J2.out.lt)
      clear bw hm
      -- the copy, the mark
      go_upto_region 9 with (go_at_call 21; ((with_reducible refine (HCP.out _ (B2.out.trans (HBW.out.mono B2.out.size))).mono ?_); rintro e w4 ⟨v, rfl, hown, b4⟩; rw [HE.out.1, HE.out.2.1, HE.out.2.2.1]; rw [HE.out.2.2.2] at hown; obtain ⟨a2, cap2, rfl, hr2⟩ := hown.row HBS.out; rw [HL.out] at hown ⊢; have HO4 := Lib.hid hown; have B4 := Lib.hid b4; clear hr2 hown b4))
      obtain ⟨W5, hW5⟩ : ∃ W5, W5 = (w4.alloc (.cells #[.slice a2 n cap2, .int .i64 F, .int .i64 T, .int .i64 N] 30)).alloc (.cells #[.int .i64 (-7), .float .f64 4619567317775286272, .bool true] 45) := ⟨_, rfl⟩
      obtain ⟨R9, hR9⟩ : ∃ R, R = w4.heap.size := ⟨_, rfl⟩
      obtain ⟨R10, hR10⟩ : ∃ R, R = w4.heap.size + 1 := ⟨_, rfl⟩
      have I9 : Hid (Bk.Is W5 R9 (winCells a2 n cap2 F T N) 30) := by show Bk.Is _ _ _ _; rw [hW5, hR9]; exact (Bk.Is.made w4 _ _).alloc _
      have I10 : Hid (Bk.Is W5 R10 #[.int .i64 (-7), .float .f64 4619567317775286272, .bool true] 45) := by
        show Bk.Is _ _ _ _
        have h := Bk.Is.made (w4.alloc (.cells #[.slice a2 n cap2, .int .i64 F, .int .i64 T, .int .i64 N] 30)) #[.int .i64 (-7), .float .f64 4619567317775286272, .bool true] 45
        rw [show (w4.alloc (.cells #[.slice a2 n cap2, .int .i64 F, .int .i64 T, .int .i64 N] 30)).heap.size = w4.heap.size + 1 by simp] at h
        rw [hW5, hR10]; exact h
      have HO5 : Hid (OwnS wr.heap.size W5 (.slice a2 n cap2) ss) := by show OwnS _ _ _ _; rw [hW5]; exact OwnS.alloc (OwnS.alloc HO4.out _) _
      have B5 : Hid (Below wr.heap.size wr W5) := by show Below _ _ _; rw [hW5]; exact (B4.out.alloc B4.out.size _).alloc (by have := B4.out.size; simp; omega) _
      have HNE9 : Hid (some R9 ≠ (Value.slice a2 n cap2).ownBlock ∧ some R10 ≠ (Value.slice a2 n cap2).ownBlock) := ⟨HO4.out.block_lt (by omega), HO4.out.block_lt (by omega)⟩
      have HR9 : Hid (wr.heap.size ≤ R9) := by show _ ≤ _; rw [hR9]; exact B4.out.size
      rw [← hW5, ← hR10, ← hR9]
      clear hW5 hR9 hR10 x30 x31 x32 x33
      obtain ⟨y0, y1, y2, y3⟩ := win_cells I9.out
      have ym0 : W5.cell? ⟨R10, 0, none⟩ = some (.int .i64 (-7)) := by rw [I10.out.cell]; rfl
      have ym1 : W5.cell? ⟨R10, 1, none⟩ = some (.float .f64 4619567317775286272) := by rw [I10.out.cell]; rfl
      have ym2 : W5.cell? ⟨R10, 2, none⟩ = some (.bool true) := by rw [I10.out.cell]; rfl
      -- the list with spare room
      go_upto_region 10 with (at_builtin; refine wpList_append_s2 rfl (.tmp 35) (.tmp 38) rfl wr.heap.size _ ss rfl (OwnS.alloc HO5.out _) W5.heap.size 2 mk mk rfl (marks_cells W5) (by rw [HL.out]; have := HNN.out; omega) (by have := B5.out.size; simp; omega) ?_; intro g2 c2 w6 hown6 hg6; rw [HL.out] at hown6 ⊢; have HO6 := Lib.hid hown6; have HG6 := Lib.hid hg6; clear hown6 hg6)
      obtain ⟨cur, hc1, hc2, hc3, hc4⟩ := holds_own HO6.out (by simp [HL.out])
      have K9 := Lib.hid (is_grown (I9.out.alloc _) HG6.out HNE9.out.1)
      have K10 := Lib.hid (is_grown (I10.out.alloc _) HG6.out HNE9.out.2)
      have B6 := Lib.hid (OwnS.below (OwnS.alloc HO5.out _) (B5.out.alloc B5.out.size _) HG6.out (by have := B5.out.size; simp; omega))
      have N9 : Hid (R9 ≠ g2) := fun e => by subst e; exact absurd (is_inj K9.out hc1).2 (by decide)
      have N10 : Hid (R10 ≠ g2) := fun e => by
        subst e
        have h1 := (is_inj K10.out hc1).1
        have h2 := (hc2 (ss.length + 1) (by simp)).1
        rw [← h1] at h2
        have h3 := (Array.getElem?_eq_some_iff.1 h2).1
        have : (ss.length + 1) * 3 < 3 := h3
        omega
      have HC1 := Lib.hid hc1
      have HC2 := Lib.hid hc2
      have HC4 : Hid (n + 2 ≤ c2) := by have := hc4; simp [HL.out] at this; exact this
      have G2 := Lib.hid hc3
      clear hc1 hc2 hc3 hc4 y0 y1 y2 y3 ym0 ym1 ym2
      have y0 := (win_cells K9.out).1
      have yf := K9.out.free 0
      have x30 := (win_cells (J2.out.below (HBW.out.trans (B6.out.mono HBW.out.size)) J2.out.lt)).1
      have hsl := fun W => slice_first_s g2 (n + 2) c2 n (by have := HC4.out; omega) (by have := HC4.out; omega) W
      -- the copy's points are the list's first ones
      go_upto_region 11 with fail
      obtain ⟨W7, hW7⟩ : ∃ W7, W7 = w6.setCell ⟨R9, 0, none⟩ (.slice (some ⟨g2, 0, none⟩) n c2) := ⟨_, rfl⟩
      have L9 : Hid (Bk.Is W7 R9 (winCells (some ⟨g2, 0, none⟩) n c2 F T N) 30) := by show Bk.Is _ _ _ _; rw [hW7]; exact K9.out.set 0 _
      have L10 : Hid (Bk.Is W7 R10 #[.int .i64 (-7), .float .f64 4619567317775286272, .bool true] 45) := by show Bk.Is _ _ _ _; rw [hW7]; exact K10.out.other (fun e => by have e' : R9 = R10 := e; subst e'; exact absurd (is_inj K9.out K10.out).2 (by decide)) _
      have LC : Hid (Bk.Is W7 g2 cur 45) := by show Bk.Is _ _ _ _; rw [hW7]; exact HC1.out.other N9.out _
      have B7 : Hid (Below wr.heap.size wr W7) := by
        show Below _ _ _
        rw [hW7]
        refine B6.out.trans ⟨rfl, rfl, rfl, by simp [World.setCell], fun q hq => ?_⟩
        have := HR9.out
        unfold World.setCell
        simp [Array.getElem?_modify]
        intro e; omega
      rw [← hW7]
      clear hW7 y0 yf x30 hsl
      have hci := HCI.out _ (HBW.out.trans (B7.out.mono HBW.out.size))
      have HNUM := Lib.hid (numbers_own m av bv W7)
      obtain ⟨k, hk⟩ : ∃ k, k = m.nums := ⟨_, rfl⟩
      have HQL : Hid ((qsOf m av bv).length = k) := by show _ = _; rw [qs_len, hk]
      have HK := Lib.hid hk
      have hk2 : k ≤ 2 := by rw [hk]; exact nums_le m
      obtain ⟨qs, hqs⟩ : ∃ qs, qs = qsOf m av bv := ⟨_, rfl⟩
      unfold NumsOwn at HNUM
      rw [← hqs] at HNUM HQL
      have HQS := Lib.hid hqs
      clear hk hqs
      have hwk : IntKind.i64.wrap ((k : Int) + 2 - 2) = (k : Int) := by rw [IntKind.wrap_i64]; omega
      have hwk2 : IntKind.i64.wrap (k : Int) = (k : Int) := by rw [IntKind.wrap_i64]; omega
      -- the numbers with spare room
      go_upto_region 13 with (first
        | (go_at_call 22; ((with_reducible refine HNUM.out.mono ?_); rintro e w8 ⟨v3, rfl, hown3, b8⟩; have HO8 := Lib.hid hown3; have B8 := Lib.hid b8; clear hown3 b8))
        | (at_builtin; refine wpList_append_fs rfl (.tmp 52) (.tmp 53) rfl W7.heap.size _ qs rfl (Own.alloc HO8.out _) (some ⟨w8.heap.size, 0, none⟩) 2 2 qz ⟨Nat.le_refl _, fun h => by cases h⟩ rfl (row_two w8 _ _) (by rw [HQL.out]; omega) (by have := B8.out.size; simp; omega) ?_; intro v4 w9 hown9 hg9 hv9; obtain ⟨g3, c3, hv4, hr9, hg3, hc3⟩ := own_some hown9 (by simp [qz]); have hl9 : (qs ++ qz).length = k + 2 := (by simp [qz, HQL.out]); rw [hl9] at hv4 hr9 hc3; subst hv4; have B9 := Lib.hid (Own.below (Own.alloc HO8.out _) (B8.out.alloc B8.out.size _) hg9 (by have := B8.out.size; simp; omega)); have HR9a := Lib.hid hr9; have HG3 := Lib.hid hg3; have HC3 := Lib.hid hc3; clear hown9 hg9 hv9 hr9 hg3 hc3 hl9))
      have HKS : Hid (KS w2 n c2 F T N R9 R10 g2 g3 k (ss ++ [mk, mk]) (qs ++ qz) w9) :=
        ⟨HBW.out.trans ((B7.out.trans (B9.out.mono B7.out.size)).mono HBW.out.size), L9.out.below B9.out L9.out.lt, L10.out.below B9.out L10.out.lt, HR9a.out, ⟨cur, LC.out.below B9.out LC.out.lt, HC2.out⟩, N9.out, N10.out, (fun e => by have h1 := HG3.out; have h2 := LC.out.lt; omega), (by have h1 := HBW.out.size; have h2 := G2.out; omega)⟩
      have HLL : Hid ((ss ++ [mk, mk]).length = n + 2) := by show _ = _; simp [HL.out]
      have HBL : Hid (BndS (ss ++ [mk, mk])) := bnd_app HBS.out
      have HTK : Hid ((ss ++ [mk, mk]).take n = ss) := take_app ss _ HL.out
      have HSA : Hid (∀ j, j < n → sAt (ss ++ [mk, mk]) j = sAt ss j) := fun j hj => sAt_app _ (by rw [HL.out]; exact hj)
      have HMK : Hid (sAt (ss ++ [mk, mk]) n = mk ∧ sAt (ss ++ [mk, mk]) (n + 1) = mk) := by
        show _ ∧ _
        rw [← HL.out]
        unfold sAt
        rw [List.getD, List.getElem?_append_right (by omega), List.getD, List.getElem?_append_right (by omega), Nat.sub_self, show ss.length + 1 - ss.length = 1 by omega]
        exact ⟨rfl, rfl⟩
      have HXK : Hid (at0 (qs ++ qz) k = 4635118810238550016 ∧ at0 (qs ++ qz) (k + 1) = 4635189178982727680) := by
        show _ ∧ _
        rw [← HQL.out]
        unfold at0
        rw [List.getD, List.getElem?_append_right (by omega), List.getD, List.getElem?_append_right (by omega), Nat.sub_self, show qs.length + 1 - qs.length = 1 by omega]
        exact ⟨rfl, rfl⟩
      have HXJ : Hid (∀ j, j < k → at0 (qs ++ qz) j = at0 qs j) := fun j hj => by unfold at0; rw [List.getD, List.getElem?_append_left (by rw [HQL.out]; exact hj), List.getD]
      obtain ⟨l, hl⟩ : ∃ l, l = ss ++ [mk, mk] := ⟨_, rfl⟩
      obtain ⟨xs, hxs⟩ : ∃ xs, xs = qs ++ qz := ⟨_, rfl⟩
      have HXS := Lib.hid hxs
      rw [← hl] at HKS HLL HBL HTK HSA HMK
      rw [← hxs] at HKS HXK HXJ
      clear hl hxs
      -- what over.Call answers of it, wherever
      have HCALL : Hid (∀ l' W, BndS l' → l'.length = n + 2 → KS w2 n c2 F T N R9 R10 g2 g3 k l' xs W → Calls Try.prog 12 #[.string m.str, .agg #[.slice (some ⟨g2, 0, none⟩) n c2, .int .i64 F, .int .i64 T, .int .i64 N], .slice (some ⟨g3, 0, none⟩) k c3] W (OptRet (callO m (l'.take n) n F T N k (qs.map cn)) W)) := fun l' W hb hl h =>
        call_nm m (some ⟨g2, 0, none⟩) n c2 (l'.take n) F T N (some ⟨g3, 0, none⟩) k c3 qs W (h.srow hb hl (by have := HNN.out; omega)) (by have := HNN.out; omega) (by have h2 := h.args; rw [HXS.out] at h2; exact row_first h2 HQL.out)
      obtain ⟨bo, hbo⟩ : ∃ b, b = (callO m (l.take n) n F T N k (qs.map cn)).isSome := ⟨_, rfl⟩
      obtain ⟨oc, hoc⟩ : ∃ b, b = (callO m (l.take n) n F T N k (qs.map cn)).getD 0 := ⟨_, rfl⟩
      have HCW : Hid (∀ W, KS w2 n c2 F T N R9 R10 g2 g3 k l xs W → Calls Try.prog 12 #[.string m.str, .agg #[.slice (some ⟨g2, 0, none⟩) n c2, .int .i64 F, .int .i64 T, .int .i64 N], .slice (some ⟨g3, 0, none⟩) k c3] W (OptW bo oc W)) := fun W h => by
        rw [hbo, hoc]; exact (HCALL.out l W HBL.out HLL.out h).mono fun _ _ hh => hh.optW
      clear hbo hoc
      have hslf := fun W => slice_first_f g3 (k + 2) c3 k (by have := HC3.out; omega) (by have := HC3.out; omega) W
      have bbo : (bo != bo) = false := by simp
      -- twice
      have hci9 := HCI.out _ HKS.out.bel
      obtain ⟨z0, z1, z2, z3⟩ := HKS.out.cells
      have hst := And.intro hci9 (And.intro z0 (And.intro z1 (And.intro z2 (And.intro z3 (Below.refl w9.heap.size w9)))))
      have HC13 := Lib.hid (HCW.out w9.drew (HKS.out.below ((Below.refl _ _).drewN' 1)))
      clear hci
      go_region_held3 (fun w' => w'.cell? ⟨B, i, none⟩ = some (.string m.str) ∧ w'.cell? ⟨R9, 0, none⟩ = some (.slice (some ⟨g2, 0, none⟩) n c2) ∧ w'.cell? ⟨R9, 1, none⟩ = some (.int .i64 F) ∧ w'.cell? ⟨R9, 2, none⟩ = some (.int .i64 T) ∧ w'.cell? ⟨R9, 3, none⟩ = some (.int .i64 N) ∧ Below w9.heap.size w9 w') (first | assumption | exact keep5 (by assumption) (by assumption) | exact keepD5 (by assumption)) (first
        | (go_at_call 12; ((with_reducible refine HC13.out.mono ?_); rintro e w10 ⟨r1, rfl, hr1, b10⟩; have HR1 := Lib.hid hr1; clear hr1)))
      rename_i hHeld
      have HK10 := Lib.hid (HKS.out.below hHeld.2.2.2.2.2)
      clear hHeld hst hci9 z0 z1 z2 z3 b10
      have hci10 := HCI.out _ HK10.out.bel
      obtain ⟨z0, z1, z2, z3⟩ := HK10.out.cells
      have hst := And.intro hci10 (And.intro z0 (And.intro z1 (And.intro z2 (And.intro z3 (Below.refl w10.heap.size w10)))))
      have HC14 := Lib.hid (HCW.out w10.drew (HK10.out.below ((Below.refl _ _).drewN' 1)))
      go_wp2_with fail
      go_region_held3 (fun w' => w'.cell? ⟨B, i, none⟩ = some (.string m.str) ∧ w'.cell? ⟨R9, 0, none⟩ = some (.slice (some ⟨g2, 0, none⟩) n c2) ∧ w'.cell? ⟨R9, 1, none⟩ = some (.int .i64 F) ∧ w'.cell? ⟨R9, 2, none⟩ = some (.int .i64 T) ∧ w'.cell? ⟨R9, 3, none⟩ = some (.int .i64 N) ∧ Below w10.heap.size w10 w') (first | assumption | exact keep5 (by assumption) (by assumption) | exact keepD5 (by assumption)) (first
        | (go_at_call 12; ((with_reducible refine HC14.out.mono ?_); rintro e w11 ⟨r2, rfl, hr2, b11⟩; have HR2a := Lib.hid hr2; clear hr2)))
      rename_i hHeld
      have HK11 := Lib.hid (HK10.out.below hHeld.2.2.2.2.2)
      clear hHeld hst hci10 z0 z1 z2 z3 b11
      have HSM : (cn r1 == cn r2) = true := by rw [HR1.out, HR2a.out]; simp
      -- nothing has turned
      have x30 := (win_cells (J2.out.below HK11.out.bel J2.out.lt)).1
      obtain ⟨m0, m1, m2⟩ := HK11.out.mark
      have f0 : w11.cell? ⟨g2, n * 3, none⟩ = some (.int .i64 (-7)) := by have := (HK11.out.smp (i := n) (by rw [HLL.out]; omega)).1; unfold tS at this; rw [HMK.out.1] at this; exact this
      have f1 : w11.cell? ⟨g2, n * 3 + 1, none⟩ = some (.float .f64 4619567317775286272) := by have := (HK11.out.smp (i := n) (by rw [HLL.out]; omega)).2.1; unfold vS at this; rw [HMK.out.1] at this; exact this
      have f2 : w11.cell? ⟨g2, n * 3 + 2, none⟩ = some (.bool true) := by have := (HK11.out.smp (i := n) (by rw [HLL.out]; omega)).2.2; unfold sS at this; rw [HMK.out.1] at this; exact this
      have f3 : w11.cell? ⟨g2, (n + 1) * 3, none⟩ = some (.int .i64 (-7)) := by have := (HK11.out.smp (i := n + 1) (by rw [HLL.out]; omega)).1; unfold tS at this; rw [HMK.out.2] at this; exact this
      have f4 : w11.cell? ⟨g2, (n + 1) * 3 + 1, none⟩ = some (.float .f64 4619567317775286272) := by have := (HK11.out.smp (i := n + 1) (by rw [HLL.out]; omega)).2.1; unfold vS at this; rw [HMK.out.2] at this; exact this
      have f5 : w11.cell? ⟨g2, (n + 1) * 3 + 2, none⟩ = some (.bool true) := by have := (HK11.out.smp (i := n + 1) (by rw [HLL.out]; omega)).2.2; unfold sS at this; rw [HMK.out.2] at this; exact this
      have a0 : w11.cell? ⟨g3, k, none⟩ = some (.float .f64 4635118810238550016) := by have := HK11.out.num (i := k) (by omega); rw [HXK.out.1] at this; exact this
      have a1 : w11.cell? ⟨g3, k + 1, none⟩ = some (.float .f64 4635189178982727680) := by have := HK11.out.num (i := k + 1) (by omega); rw [HXK.out.2] at this; exact this
      have meq := mark_eq
      have o77 : (FloatKind.f64.format.order 4635118810238550016 4635118810238550016 != some Ordering.eq) = false := by decide +kernel
      have o78 : (FloatKind.f64.format.order 4635189178982727680 4635189178982727680 != some Ordering.eq) = false := by decide +kernel
      have in0 : (n : Int) < (n : Int) + 2 := by omega
      have in1 : (n : Int) + 1 < (n : Int) + 2 := by omega
      have ik0 : (k : Int) < (k : Int) + 2 := by omega
      have ik1 : (k : Int) + 1 < (k : Int) + 2 := by omega
      have wn1 : IntKind.i64.wrap ((n : Int) + 1) = (n : Int) + 1 := by have := HNN.out; rw [IntKind.wrap_i64]; omega
      have wk1 : IntKind.i64.wrap ((k : Int) + 1) = (k : Int) + 1 := by rw [IntKind.wrap_i64]; omega
      go_wp2_with fail
      go_quiet (first | (go_at_call 17; exact same_quiet HSM _ _))
      have HK12 := Lib.hid (HK11.out.below ((Below.refl _ _).drewN' nq))
      generalize w11.drewN nq = w12 at HK12 ⊢
      clear x30 m0 m1 m2 f0 f1 f2 f3 f4 f5 a0 a1 o77 o78 in0 in1 ik0 ik1 wn1 wk1 meq nq
      go_wp2_with fail
      have HWR : Hid (∀ W, Below w2.heap.size w2 W → SRow W a n ss) := fun W hb => HR2.out.below hb
      go_loopw [18] (ORel n w12) (fun vi _ => n - (intOf vi).toNat)
      case atStart => exact ⟨0, by omega, rfl, Below.refl _ _⟩
      case round =>
        obtain ⟨j, hj, rfl, bj⟩ := hrel
        have HKJ := Lib.hid (HK12.out.below bj)
        have x30 := (win_cells (J2.out.below HKJ.out.bel J2.out.lt)).1
        have z0 := HKJ.out.cells.1
        have BJ := Lib.hid bj
        clear bj
        by_cases hjn : j < n
        · obtain ⟨b0, off, ha, hcell⟩ := (HWR.out _ HKJ.out.bel).2.2.2 (by omega)
          subst ha
          obtain ⟨e0, e1, e2⟩ := hcell j hjn
          obtain ⟨d0, d1, d2⟩ := HKJ.out.smp (i := j) (by rw [HLL.out]; omega)
          have et : tS l j = tS ss j := by unfold tS; rw [HSA.out j hjn]
          have ev : vS l j = vS ss j := by unfold vS; rw [HSA.out j hjn]
          have es : sS l j = sS ss j := by unfold sS; rw [HSA.out j hjn]
          rw [et] at d0
          rw [ev] at d1
          rw [es] at d2
          obtain ⟨tj, htj⟩ : ∃ q, q = tS ss j := ⟨_, rfl⟩
          obtain ⟨vj, hvj⟩ : ∃ q, q = vS ss j := ⟨_, rfl⟩
          obtain ⟨sj, hsj⟩ : ∃ q, q = sS ss j := ⟨_, rfl⟩
          rw [← htj] at e0 d0
          rw [← hvj] at e1 d1
          rw [← hsj] at e2 d2
          have bt : (tj != tj) = false := by simp
          have bs : (sj != sj) = false := by simp
          have HSV : (cn vj == cn vj) = true := by simp
          have jlt : (j : Int) < (n : Int) := by omega
          have wj1 : IntKind.i64.wrap ((j : Int) + 1) = (j : Int) + 1 := by have := HNN.out; rw [IntKind.wrap_i64]; omega
          have wj2 : wrap64 ((j : Int) + 1) = (j : Int) + 1 := by have := HNN.out; unfold wrap64; omega
          clear hcell et ev es htj hvj hsj
          go_wp2_with fail
          go_quiet (first | (go_at_call 17; exact same_quiet HSV _ _))
          go_wp2_with fail
          go_roundw
          case rel => exact ⟨j + 1, by omega, by go_num, BJ.out.drewN' _⟩
          case measure => simp [intOf]; omega
        · have djn : decide (j < n) = false := decide_eq_false (by omega)
          clear hjn hj
          go_wp2_with fail
          have HNU2 := Lib.hid (numbers_any m av bv)
          unfold NumsRet at HNU2
          go_loopw [19] (ORel k wr) (fun vi _ => k - (intOf vi).toNat)
          case atStart => exact ⟨0, by omega, rfl, Below.refl _ _⟩
          case round =>
            obtain ⟨j2, hj2, rfl, bj2⟩ := hrel
            have HK2 := Lib.hid (HKJ.out.below bj2)
            have BJ2 := Lib.hid bj2
            clear bj2
            by_cases hjk : j2 < k
            · have n0 := HK2.out.num (i := j2) (by omega)
              rw [HXJ.out j2 hjk] at n0
              obtain ⟨qj, hqj⟩ : ∃ q, q = at0 qs j2 := ⟨_, rfl⟩
              rw [← hqj] at n0
              have HQJ := Lib.hid hqj
              have HSQ : (cn qj == cn qj) = true := by simp
              have hci2 := HCI.out _ HK2.out.bel
              have jlt : (j2 : Int) < (k : Int) := by omega
              have wj1 : IntKind.i64.wrap ((j2 : Int) + 1) = (j2 : Int) + 1 := by rw [IntKind.wrap_i64]; omega
              have wj2 : wrap64 ((j2 : Int) + 1) = (j2 : Int) + 1 := by unfold wrap64; omega
              have jlt2 : (j2 : Int) < (k : Int) + 2 := by omega
              clear hqj
              go_wp2_with fail
              go_region_with (first
                | (go_at_call 22; ((with_reducible refine (HNU2.out _).mono ?_); rintro e w20 ⟨aa, rfl, hrow, b20⟩; rw [← HK.out, ← HQS.out] at hrow; rw [← HK.out]; obtain ⟨gq, oq, rfl, hq⟩ := hrow.2.2 (by omega); have hqj := hq j2 hjk; rw [← HQJ.out] at hqj; have n1 := cell_stay (w1 := wr.drew) n0 b20; have BE := Lib.hid (((Below.refl wr.heap.size wr).drewN' 1).trans b20); clear hq hrow b20))
                | (go_at_call 17; ((with_reducible refine (same_any _ _ _).mono ?_); rintro e w21 ⟨rfl, rfl⟩; rw [HSQ])))
              all_goals
                go_wp2_with fail
                go_roundw
                case rel => exact ⟨j2 + 1, by omega, by go_num, BJ2.out.trans (BE.out.mono BJ2.out.size)⟩
                case measure => simp [intOf]; omega
            · have djk : decide (j2 < k) = false := decide_eq_false (by omega)
              clear hjk hj2
              go_wp2_with fail
              go_loopw [20] (KpRel w2 n c2 F T N R9 R10 g2 g3 k xs) (fun vi _ => n - (intOf vi).toNat)
              case atStart => exact ⟨0, l, by omega, rfl, HBL.out, HLL.out, HK2.out⟩
              case round =>
                obtain ⟨j3, l3, hj3, rfl, hb3, hl3, hk3⟩ := hrel
                have HB3 := Lib.hid hb3
                have HL3 := Lib.hid hl3
                have HK3 := Lib.hid hk3
                clear hb3 hl3 hk3
                have z30 := HK3.out.cells.1
                by_cases hj3n : j3 < n
                · have d1 := (HK3.out.smp (i := j3) (by rw [HL3.out]; omega)).2.1
                  have fz := HK3.out.free (j3 * 3 + 1)
                  have jlt : (j3 : Int) < (n : Int) := by omega
                  have wj1 : IntKind.i64.wrap ((j3 : Int) + 1) = (j3 : Int) + 1 := by have := HNN.out; rw [IntKind.wrap_i64]; omega
                  have wj2 : wrap64 ((j3 : Int) + 1) = (j3 : Int) + 1 := by have := HNN.out; unfold wrap64; omega
                  obtain ⟨v3, hv3⟩ : ∃ q, q = vS l3 j3 := ⟨_, rfl⟩
                  rw [← hv3] at d1
                  clear hv3
                  go_wp2_with fail
                  refine wp_region_rel_tail (fun wd => ∃ nd, wd = wr.drewN nd) (fun _ _ _ => False) (by kernel_rfl) (by kernel_rfl) rfl rfl (by repeat (first | exact ⟨_, rfl⟩ | refine drew_class _ _ ?_ | refine drewN_class _ _ _ ?_)) ?_
                  dsimp only [List.dropLast]
                  repeat (first | (refine wpRel_fop _ _ _ _ _ _ _ rfl rfl rfl rfl (drewN_class wr) ?_; intro r hr; go_big_quiet_step (fail); refine wpQuiet_nil ?_) | (refine wpRel_quiet rfl ?_; go_big_quiet_step (fail); refine wpQuiet_nil ?_))
                  refine wpRel_nil ?_
                  rintro wz ⟨nd3, rfl⟩
                  have HST := Lib.hid (HK3.out.store (j := j3) (by rw [HL3.out]; omega) r nd3)
                  go_wp2_with fail
                  go_roundw
                  case rel => exact ⟨j3 + 1, setV l3 j3 r, by omega, by go_num, bnd_setV HB3.out (by rw [HL3.out]; omega), by rw [setV_length]; exact HL3.out, HST.out⟩
                  case measure => simp [intOf]; omega
                · have dj3 : decide (j3 < n) = false := decide_eq_false (by omega)
                  clear hj3n hj3
                  have HRI : Hid (SRow wr (some ⟨g2, 0, none⟩) n (l3.take n)) := HK3.out.srow HB3.out HL3.out (by have := HNN.out; omega)
                  have HCP2 := Lib.hid (copied_any (some ⟨g2, 0, none⟩) n c2 (l3.take n) F T N 0 wr HRI.out (by have := HNN.out; omega))
                  unfold CopyRet at HCP2
                  have HE3 := Lib.hid (cp0 HRI.out.2.2.1)
                  obtain ⟨z1, z2, z3⟩ := HK3.out.cells.2
                  go_upto_region 32 with (go_at_call 21; ((with_reducible refine HCP2.out.mono ?_); rintro e w30 ⟨v, rfl, hown, b30⟩; rw [HE.out.1, HE.out.2.1, HE.out.2.2.1]; rw [HE3.out] at hown; obtain ⟨a5, c5, rfl, hr5⟩ := hown.row HRI.out.2.2.1; rw [HRI.out.1] at hr5 ⊢; have HR5 := Lib.hid hr5; have B30 := Lib.hid b30; clear hown b30 hr5))
                  obtain ⟨W31, hW31⟩ : ∃ W31, W31 = w30.alloc (.cells #[.slice a5 n c5, .int .i64 F, .int .i64 T, .int .i64 N] 30) := ⟨_, rfl⟩
                  obtain ⟨R21, hR21⟩ : ∃ R, R = w30.heap.size := ⟨_, rfl⟩
                  have B31 : Hid (Below wr.heap.size wr W31) := by show Below _ _ _; rw [hW31]; exact B30.out.alloc B30.out.size _
                  have I21 : Hid (Bk.Is W31 R21 (winCells a5 n c5 F T N) 30) := by show Bk.Is _ _ _ _; rw [hW31, hR21]; exact Bk.Is.made w30 _ _
                  have HR31 : Hid (SRow W31 a5 n (l3.take n)) := by show SRow _ _ _ _; rw [hW31]; exact HR5.out.below ((Below.refl _ _).alloc (Nat.le_refl _) _)
                  have HK31 := Lib.hid (HK3.out.below B31.out)
                  rw [← hW31, ← hR21]
                  clear hW31 hR21 z30 z1 z2 z3
                  obtain ⟨bp, hbp⟩ : ∃ b, b = (callO m (l3.take n) n F T N k (qs.map cn)).isSome := ⟨_, rfl⟩
                  obtain ⟨op, hop⟩ : ∃ b, b = (callO m (l3.take n) n F T N k (qs.map cn)).getD 0 := ⟨_, rfl⟩
                  have HC32 : Hid (Calls Try.prog 12 #[.string m.str, .agg #[.slice (some ⟨g2, 0, none⟩) n c2, .int .i64 F, .int .i64 T, .int .i64 N], .slice (some ⟨g3, 0, none⟩) k c3] W31.drew (OptW bp op W31.drew)) := by
                    show Calls _ _ _ _ _
                    rw [hbp, hop]; exact (HCALL.out l3 _ HB3.out HL3.out (HK31.out.below ((Below.refl _ _).drewN' 1))).mono fun _ _ hh => hh.optW
                  have HC33 : Hid (∀ W aa, Below W31.heap.size W31 W → Row W aa k qs → Calls Try.prog 12 #[.string m.str, .agg #[.slice a5 n c5, .int .i64 F, .int .i64 T, .int .i64 N], .slice aa k k] W (OptW bp op W)) := fun W aa hb h => by
                    rw [hbp, hop]; exact (call_nm m a5 n c5 (l3.take n) F T N aa k k qs W (HR31.out.below hb) (by have := HNN.out; omega) h).mono fun _ _ hh => hh.optW
                  clear hbp hop
                  have bbp : (bp != bp) = false := by simp
                  have hci3 := HCI.out _ HK31.out.bel
                  obtain ⟨z0, z1, z2, z3⟩ := HK31.out.cells
                  have hst := And.intro hci3 (And.intro z0 (And.intro z1 (And.intro z2 (And.intro z3 (Below.refl W31.heap.size W31)))))
                  go_region_held3 (fun w' => w'.cell? ⟨B, i, none⟩ = some (.string m.str) ∧ w'.cell? ⟨R9, 0, none⟩ = some (.slice (some ⟨g2, 0, none⟩) n c2) ∧ w'.cell? ⟨R9, 1, none⟩ = some (.int .i64 F) ∧ w'.cell? ⟨R9, 2, none⟩ = some (.int .i64 T) ∧ w'.cell? ⟨R9, 3, none⟩ = some (.int .i64 N) ∧ Below W31.heap.size W31 w') (first | assumption | exact keep5 (by assumption) (by assumption) | exact keepD5 (by assumption)) (first
                    | (go_at_call 12; ((with_reducible refine HC32.out.mono ?_); rintro e w32 ⟨r5, rfl, hr5, b32⟩; have HR5a := Lib.hid hr5; clear hr5)))
                  rename_i hHeld
                  have B32 := Lib.hid hHeld.2.2.2.2.2
                  clear hHeld hst hci3 z0 z1 z2 z3 b32
                  have hci3 := HCI.out _ (HK31.out.bel.trans (B32.out.mono HK31.out.bel.size))
                  obtain ⟨z0, z1, z2, z3⟩ := win_cells (I21.out.below B32.out I21.out.lt)
                  have hst := And.intro hci3 (And.intro z0 (And.intro z1 (And.intro z2 (And.intro z3 (Below.refl w32.heap.size w32)))))
                  have HBD := Lib.hid (B32.out.drewN' 1)
                  go_wp2_with fail
                  go_region_held3 (fun w' => w'.cell? ⟨B, i, none⟩ = some (.string m.str) ∧ w'.cell? ⟨R21, 0, none⟩ = some (.slice a5 n c5) ∧ w'.cell? ⟨R21, 1, none⟩ = some (.int .i64 F) ∧ w'.cell? ⟨R21, 2, none⟩ = some (.int .i64 T) ∧ w'.cell? ⟨R21, 3, none⟩ = some (.int .i64 N) ∧ Below w32.heap.size w32 w') (first | assumption | exact keep5 (by assumption) (by assumption) | exact keepD5 (by assumption)) (first
                    | (go_at_call 22; ((with_reducible refine (HNU2.out _).mono ?_); rintro e w33 ⟨aa, rfl, hrow, b33⟩; rw [← HK.out, ← HQS.out] at hrow; rw [← HK.out]; have HROW := Lib.hid hrow; clear hrow))
                    | (go_at_call 12; ((with_reducible refine (HC33.out _ _ (HBD.out.trans (b33.mono HBD.out.size)) HROW.out).mono ?_); rintro e w34 ⟨r6, rfl, hr6, b34⟩)))
                  rename_i hHeld
                  have B34 := Lib.hid (HK31.out.bel.trans ((B32.out.trans (hHeld.2.2.2.2.2.mono B32.out.size)).mono HK31.out.bel.size))
                  clear hHeld hst hci3 z0 z1 z2 z3
                  have HSL : (cn r5 == cn r6) = true := by rw [HR5a.out, hr6]; simp
                  go_wp2_with (go_at_call 17; ((with_reducible refine (same_any _ _ _).mono ?_); rintro e w35 ⟨rfl, rfl⟩; rw [HSL]))
                  go_roundw
                  case rel => exact ⟨i + 1, by omega, by go_num, B34.out⟩
                  case measure => simp [intOf]; omega
    · obtain rfl : i = 23 := by omega
      go_wp2_with fail
      go_ret
      exact ⟨rfl, B2.out.trans (bw.mono B2.out.size)⟩
end Go.Proofs.Ytoeldcgclaiokaa

