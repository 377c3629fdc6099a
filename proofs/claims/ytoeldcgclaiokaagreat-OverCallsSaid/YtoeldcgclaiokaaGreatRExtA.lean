/- weirref20.Extrapolate: what it answers. -/
import Derived.Test.YtoeldcgclaiokaaGreatRefWinA
import Derived.Deep.CutBlock
namespace Go.Proofs.YtoeldcgclaiokaaGreat
open Go.Fl Go.Rel Go.RowKit
set_option linter.unusedVariables false
set_option linter.unusedSimpArgs false

def extMr (c : Bool) (a s v g : Nat) : Nat := if c = true then (if flt (fmul s (fdiv v g)) a = true then fmul s (fdiv v g) else a) else a
/-- What the reference answers of m + 2 points. -/
def extCr (vs : List Nat) (ts : Nat → Int) (m : Nat) (F T : Int) (counter perSec : Bool) : Nat :=
  let G := gC vs (m + 2) counter
  let S := secF (wrap64 (ts (m + 1) - ts 0))
  let M := fdiv S (nfl (m + 1))
  let H := fmul M elev
  fmul G (extF perSec (fdiv (fadd (fadd S (extMr (extG counter G (at0 vs 0)) (extA (secF (wrap64 (ts 0 - F))) H M) S (at0 vs 0) G)) (extA (secF (wrap64 (T - ts (m + 1)))) H M)) S) (secF (wrap64 (T - F))))

def RcR (_f : FuncId) (args : Array Value) (v : Value) : Prop := ∃ r, v = .float .f64 r ∧ ∀ z, args = #[.int .i64 z] → cn r = secF z
theorem rcr_secs {wx : World} (wd : World) (z : Int) (hd : ∃ nd, wd = wx.drewN nd) : Calls Tryz.prog 26 #[.int .i64 z] wd fun e w2 => ∃ v, e = .returned v ∧ RcR 26 #[.int .i64 z] v ∧ ∃ nd, w2 = wx.drewN nd := by
  obtain ⟨nd, rfl⟩ := hd
  refine (rsecs_any z _).mono ?_
  rintro e w2 ⟨r, n, rfl, hr, rfl⟩
  exact ⟨_, rfl, ⟨r, rfl, fun z' hz => by injection hz with h1; injection h1 with h2; injection h2 with h3 h4; subst h4; exact hr⟩, _, World.drewN_drewN ..⟩

/-- A call of seconds in a region that draws its order. -/
theorem wpRel_rsecs {ops : Array Oper} {rest : List Oper} {a : Act} {wx : World} {Q' : Act → Prop} {dst : Option Tmp} {ty : TypeId} {pos : String} {after : Array Edge} {guard : Option (Nat × Bool)} {ats : Array TypeId} (x : Operand)
    (hg : Region.wanted { dst, op := .call { callee := .value (.func 26), args := #[x], argTypes := ats }, type := ty, pos, after, guard } (yielded ops a.tmps) = true)
    (z : Int) (hx : a.eval x = .int .i64 z)
    (h : ∀ r, cn r = secF z → wpQuiet Tryz.prog ops (fun wd => ∃ nd, wd = wx.drewN nd) (fun a' => wpRel Tryz.prog ops (fun wd => ∃ nd, wd = wx.drewN nd) RcR Q' rest a') [{ dst, op := .move (.const (.float .f64 r)), type := ty, pos, after := #[], guard := none }] a) :
    wpRel Tryz.prog ops (fun wd => ∃ nd, wd = wx.drewN nd) RcR Q' ({ dst, op := .call { callee := .value (.func 26), args := #[x], argTypes := ats }, type := ty, pos, after, guard } :: rest) a := by
  refine wpRel_call 26 Tryz.f26 #[x] ats #[.int .i64 z] hg Tryz.func26 (by kernel_rfl) (by kernel_rfl) (by simp [hx]) (fun wd hd => rcr_secs wd z hd) ?_
  rintro v ⟨r, rfl, hr⟩
  exact h r (hr z rfl)

set_option maxHeartbeats 8000000 in
set_option maxRecDepth 1000000 in
theorem rext_main (m cap : Nat) (a : Option Addr) (ss : List Smp) (F T N : Int) (counter perSec : Bool) (w : World) (hr : SRow w a (m + 2) ss) (hreach : m + 2 < 17592186044416) (hs : sndB F T N ss (m + 2) = true) :
    Calls Tryz.prog 18 #[winV a (m + 2) cap F T N, .bool counter, .bool perSec] w (OptRet (some (extCr (vcs ss) (tS ss) m F T counter perSec)) w) := by
  have hn := hr.2.1
  have dd : decide (((m + 2 : Nat) : Int) < 2) = false := decide_eq_false (by omega)
  have HS : Hid (∀ w1, Below w.heap.size w w1 → Calls Tryz.prog 16 #[winV a (m + 2) cap F T N] w1 (BoolB true w1)) := fun w1 hb => by
    have := rsound_any a (m + 2) cap ss F T N w1 (hr.below hb) hreach
    rw [hs] at this
    exact this
  have HB0 : Hid (Below w.heap.size w (w.alloc (.cells #[.slice a (m + 2) cap, .int .i64 F, .int .i64 T, .int .i64 N] 24))) := (Below.refl _ _).alloc (Nat.le_refl _) _
  have HR := Lib.hid hr
  clear hr hs hreach
  go_enter Tryz.func18, Tryz.ntmps18
  go_wp2_with (go_at_call 16; ((with_reducible refine (HS.out _ HB0.out).mono ?_); rintro e w1 ⟨rfl, b1⟩; have BW := Lib.hid (HB0.out.trans (b1.mono HB0.out.size)); have cw0 : w1.cell? ⟨w.heap.size, 0, none⟩ = some (.slice a (m + 2) cap) := (by rw [b1.cell (p := ⟨w.heap.size, 0, none⟩) (by simp), World.cell?_alloc_at _ _ _ _ rfl]; rfl); have cw1 : w1.cell? ⟨w.heap.size, 1, none⟩ = some (.int .i64 F) := (by rw [b1.cell (p := ⟨w.heap.size, 1, none⟩) (by simp), World.cell?_alloc_at _ _ _ _ rfl]; rfl); have cw2 : w1.cell? ⟨w.heap.size, 2, none⟩ = some (.int .i64 T) := (by rw [b1.cell (p := ⟨w.heap.size, 2, none⟩) (by simp), World.cell?_alloc_at _ _ _ _ rfl]; rfl); have hbs : w.heap.size < w1.heap.size := (by have := b1.size; simp at this; omega); clear b1))
  obtain ⟨b, off, ha, hcell⟩ := ((HR.out).below (show Below w.heap.size w w1 from BW.out)).2.2.2 (by omega)
  subst ha
  obtain ⟨e0, e1, e2⟩ := hcell 0 (by omega)
  obtain ⟨f0, f1, f2⟩ := hcell (m + 1) (by omega)
  simp only [Nat.zero_mul, Nat.add_zero] at e0 e1 e2
  have hblt : b < w1.heap.size := World.block_lt_of_cell? w1 _ e1
  have HC : Hid (∀ k, k < m + 2 → w1.cell? ⟨b, off + k * 3 + 1, none⟩ = some (.float .f64 (vS ss k))) := fun k hk => (hcell k hk).2.1
  clear hcell
  have hlen : (m : Int) + 2 ≤ 9223372036854775807 := by omega
  obtain ⟨t1, ht1⟩ : ∃ q, q = tS ss 0 := ⟨_, rfl⟩
  obtain ⟨v1, hv1⟩ : ∃ q, q = vS ss 0 := ⟨_, rfl⟩
  obtain ⟨s1, hs1⟩ : ∃ q, q = sS ss 0 := ⟨_, rfl⟩
  obtain ⟨t2, ht2⟩ : ∃ q, q = tS ss (m + 1) := ⟨_, rfl⟩
  obtain ⟨v2, hv2⟩ : ∃ q, q = vS ss (m + 1) := ⟨_, rfl⟩
  obtain ⟨s2, hs2⟩ : ∃ q, q = sS ss (m + 1) := ⟨_, rfl⟩
  have HT1 := Lib.hid ht1
  have HT2 := Lib.hid ht2
  have HV1 : Hid (at0 (vcs ss) 0 = cn v1) := by show _ = _; rw [at0_vcs ss (by rw [HR.out.1]; omega), hv1]
  have HV2 : Hid (at0 (vcs ss) (m + 1) = cn v2) := by show _ = _; rw [at0_vcs ss (by rw [HR.out.1]; omega), hv2]
  simp only [← ht1, ← hv1, ← hs1] at e0 e1 e2
  simp only [← ht2, ← hv2, ← hs2] at f0 f1 f2
  clear ht1 hv1 hs1 ht2 hv2 hs2
  go_cut [9, 10] (fun s9 s10 wx => PCut t1 t2 v1 v2 w1 s9 s10 wx)
  case first =>
    have OLD1 : ∀ (q : Addr) v, w1.cell? q = some v → ∀ o1, (w1.alloc o1).cell? q = some v := fun q v h o1 => cell_old h o1
    have OLD : ∀ (q : Addr) v, w1.cell? q = some v → ∀ o1 o2, ((w1.alloc o1).alloc o2).cell? q = some v := fun q v h o1 o2 => cell_old (cell_old h o1) o2
    have hw1 : IntKind.i64.wrap ((m : Int) + 1) = (m : Int) + 1 := by rw [IntKind.wrap_i64]; omega
    have p0 := OLD1 _ _ cw0
    have p1 := OLD1 _ _ e0
    have p2 := OLD1 _ _ e1
    have p3 := OLD1 _ _ e2
    have p4 := OLD1 _ _ f0
    have p5 := OLD1 _ _ f1
    have p6 := OLD1 _ _ f2
    have g0 := OLD _ _ cw0
    have g1 := OLD _ _ e0
    have g2 := OLD _ _ e1
    have g3 := OLD _ _ e2
    have g4 := OLD _ _ f0
    have g5 := OLD _ _ f1
    have g6 := OLD _ _ f2
    clear OLD OLD1
    have hs1 : w1.heap.size ≤ w1.heap.size := Nat.le_refl _
    go_region
    · go_wp2_with fail
      go_meet
      exact ⟨w1.heap.size, w1.heap.size + 1, rfl, rfl, by simp, by simp, by simp, by simp, (((Below.refl _ _).alloc hs1 _).alloc (by simp) _).drewN' 1⟩
    · go_wp2_with fail
      go_meet
      exact ⟨w1.heap.size + 1, w1.heap.size, rfl, rfl, by simp, by simp, by simp, by simp, (((Below.refl _ _).alloc hs1 _).alloc (by simp) _).drewN' 1⟩
  case rest =>
    obtain ⟨wx, hwx⟩ : ∃ wx, wx = wc := ⟨_, rfl⟩
    subst hwx
    obtain ⟨P1, P2, rfl, rfl, x0, x1, x2, x3, bx⟩ := hcut
    have y0 : wx.cell? ⟨w.heap.size, 0, none⟩ = some (.slice (some ⟨b, off, none⟩) (m + 2) cap) := by rw [bx.cell (p := ⟨w.heap.size, 0, none⟩) hbs]; exact cw0
    have y1 : wx.cell? ⟨w.heap.size, 1, none⟩ = some (.int .i64 F) := by rw [bx.cell (p := ⟨w.heap.size, 1, none⟩) hbs]; exact cw1
    have y2 : wx.cell? ⟨w.heap.size, 2, none⟩ = some (.int .i64 T) := by rw [bx.cell (p := ⟨w.heap.size, 2, none⟩) hbs]; exact cw2
    have HX : Hid (∀ k, k < m + 2 → wx.cell? ⟨b, off + k * 3 + 1, none⟩ = some (.float .f64 (vS ss k))) := fun k hk => by rw [bx.cell (p := ⟨b, off + k * 3 + 1, none⟩) hblt]; exact HC.out k hk
    have BX := Lib.hid (BW.out.trans (bx.mono BW.out.size))
    clear cw0 cw1 cw2 e0 e1 e2 f0 f1 f2 bx hbs hblt
    go_upto_block 0 with (refine wpList_fop _ _ _ _ _ _ _ rfl rfl rfl ?_; intro r nq hr9; have Hr9 := Lib.hid hr9; clear hr9)
    go_cut [11] (fun s11 wy => GCut (gC (vcs ss) (m + 2) counter) wx s11 wy)
    case first =>
      go_wp2_with fail
      go_loopw [11, 12] (GRel (vcs ss) (m + 2) counter wx) (fun _ vi _ => m + 3 - (intOf vi).toNat)
      case atStart => exact ⟨0, nq, r, rfl, rfl, by rw [Hr9.out, fop_sub]; show _ = fsub (at0 (vcs ss) (m + 1)) _; rw [HV1.out, HV2.out], by omega, rfl, fun _ => rfl⟩
      case round =>
        obtain ⟨k, nd, q, rfl, rfl, hq, hk, rfl, hck⟩ := hrel
        have HQ := Lib.hid hq
        clear hq
        cases counter with
        | false =>
          have hk0 := hck rfl
          subst hk0
          have d1 : decide ((1 : Int) < (m : Int) + 2) = true := decide_eq_true (by omega)
          go_wp2_with fail
          go_meet
          exact ⟨q, nd, rfl, by rw [HQ.out]; rfl, rfl⟩
        | true =>
          clear hck
          by_cases hlt : k + 1 < m + 2
          · have hlt2 : (k : Int) + 1 < (m : Int) + 2 := by omega
            have c1 := HX.out k (by omega)
            have c2 := HX.out (k + 1) hlt
            have hwk : IntKind.i64.wrap ((k : Int) + 1 - 1) = (k : Int) := by rw [IntKind.wrap_i64]; omega
            have HVA : Hid (at0 (vcs ss) k = cn (vS ss k)) := at0_vcs ss (by rw [HR.out.1]; omega)
            have HVB : Hid (at0 (vcs ss) (k + 1) = cn (vS ss (k + 1))) := at0_vcs ss (by rw [HR.out.1]; omega)
            obtain ⟨u, hu⟩ : ∃ q, q = vS ss k := ⟨_, rfl⟩
            obtain ⟨v, hv⟩ : ∃ q, q = vS ss (k + 1) := ⟨_, rfl⟩
            rw [← hu] at c1 HVA
            rw [← hv] at c2 HVB
            clear hu hv
            cases hl : flt (cn v) (cn u) with
            | true =>
              have ho : (FloatKind.f64.format.order v u == some Ordering.lt) = true := by rw [order_cn]; exact hl
              have HL := Lib.hid hl
              clear hl
              go_wp2_with fail
              go_quiet (fail)
              go_wp2_with (refine wpList_fop _ _ _ _ _ _ _ rfl rfl rfl ?_; intro r2 nq2 hr2; have Hr2 := Lib.hid hr2; clear hr2)
              go_roundw
              case rel => exact ⟨k + 1, _, r2, by rw [show (((k + 1 : Nat) : Int) + 1) = (k : Int) + 1 + 1 by omega], rfl, by rw [Hr2.out, fop_add, HQ.out]; show _ = if flt (at0 (vcs ss) (k + 1)) (at0 (vcs ss) k) = true then _ else _; rw [HVA.out, HVB.out, if_pos HL.out], by omega, by first | rfl | exact World.drewN_drewN .. | exact dr3 _ _ _ _ | exact dr4 _ _ _ _ _, fun h => by cases h⟩
              case measure => simp [intOf]; omega
            | false =>
              have ho : (FloatKind.f64.format.order v u == some Ordering.lt) = false := by rw [order_cn]; exact hl
              have HL := Lib.hid hl
              clear hl
              go_wp2_with fail
              go_quiet (fail)
              go_wp2_with fail
              go_roundw
              case rel => exact ⟨k + 1, _, q, by rw [show (((k + 1 : Nat) : Int) + 1) = (k : Int) + 1 + 1 by omega], rfl, by rw [HQ.out]; show _ = if flt (at0 (vcs ss) (k + 1)) (at0 (vcs ss) k) = true then _ else _; rw [HVA.out, HVB.out, if_neg (by rw [HL.out]; simp)], by omega, by first | rfl | exact World.drewN_drewN .. | exact dr3 _ _ _ _ | exact dr4 _ _ _ _ _, fun h => by cases h⟩
              case measure => simp [intOf]; omega
          · have hk2 : k + 1 = m + 2 := by omega
            obtain rfl : k = m + 1 := by omega
            clear hk2 hlt hk
            clear hn hlen dd
            go_wp2_with fail
            go_meet
            exact gcut_true HQ.out
    case rest =>
      obtain ⟨wy, hwy⟩ : ∃ wx, wx = wc := ⟨_, rfl⟩
      subst hwy
      obtain ⟨g, ng, rfl, hg, rfl⟩ := hcut
      have HG := Lib.hid hg
      clear hg hn dd
      go_wp2_with fail
      refine wp_region_rel (fun wd => ∃ nd, wd = wx.drewN nd) RcR (by kernel_rfl) (by kernel_rfl) (by repeat (first | exact ⟨_, rfl⟩ | refine drew_class _ _ ?_ | refine drewN_class _ _ _ ?_)) ?_
      repeat (first | (refine wpRel_rsecs _ rfl _ rfl ?_; intro r hr; go_big_quiet_step (fail); refine wpQuiet_nil ?_) | (refine wpRel_quiet rfl ?_; go_big_quiet_step (fail); refine wpQuiet_nil ?_))
      refine wpRel_nil ?_
      rintro wz ⟨n1, rfl⟩
      rename_i ra hra rb hrb
      have HRA := Lib.hid hra
      have HRB := Lib.hid hrb
      have HRC := Lib.hid hr
      clear hra hrb hr
      have tok1 : True := trivial
      go_upto_if 103 with (first | (have _t := tok1; clear tok1 _t; refine wpList_fop _ _ _ _ _ _ _ rfl rfl rfl ?_; intro rq nq2 hq2; have HQ2 := Lib.hid hq2; clear hq2) | (refine wpList_fop _ _ _ _ _ _ _ rfl rfl rfl ?_; intro rm nm hm; have HM := Lib.hid hm; clear hm))
      have HMC : Hid (cn rq = fdiv (secF (wrap64 (t2 - t1))) (nfl (m + 1))) := by show _ = _; rw [HQ2.out, fop_quo, HRC.out, show (m : Int) + 2 - 1 = ((m + 1 : Nat) : Int) by omega]; exact congrArg (fdiv _) (cn_nfl (m + 1))
      have HHC : Hid (cn rm = fmul (cn rq) elev) := by show _ = _; rw [HM.out, fop_mul]; rfl
      clear HQ2 HM hlen
      go_cut [13] (fun s13 wy => GCut (extA (cn ra) (cn rm) (cn rq)) wx s13 wy)
      case first =>
        have ho : (FloatKind.f64.format.order ra rm == some Ordering.gt || FloatKind.f64.format.order ra rm == some Ordering.eq) = fge (cn ra) (cn rm) := by rw [order_cn]; rfl
        have HX9 : Hid (extA (cn ra) (cn rm) (cn rq) = if fge (cn ra) (cn rm) = true then fdiv (cn rq) two' else cn ra) := rfl
        rw [ho]
        clear ho
        obtain ⟨cc, hcc⟩ : ∃ c, c = fge (cn ra) (cn rm) := ⟨_, rfl⟩
        rw [← hcc]
        have HCC := Lib.hid hcc
        clear hcc
        cases cc with
        | true =>
          go_wp2_with (refine wpList_fop _ _ _ _ _ _ _ rfl rfl rfl ?_; intro r9 n9 h9; have H9 := Lib.hid h9; clear h9)
          go_meet
          exact ⟨r9, _, rfl, by rw [H9.out, HX9.out, if_pos HCC.out.symm, fop_quo]; rfl, by first | rfl | exact World.drewN_drewN .. | exact dr3 _ _ _ _ | exact dr4 _ _ _ _ _⟩
        | false =>
          go_wp2_with fail
          go_meet
          exact ⟨ra, _, rfl, by rw [HX9.out, if_neg (by rw [← HCC.out]; simp)], by first | rfl | exact World.drewN_drewN .. | exact dr3 _ _ _ _ | exact dr4 _ _ _ _ _⟩
      case rest =>
        obtain ⟨a1, na1, rfl, ha1, rfl⟩ := hcut
        have HA1 := Lib.hid ha1
        clear ha1
        go_upto_region 16 with fail
        go_cut [115] (fun s115 wy => s115 = .bool (extG counter (cn g) (cn v1)) ∧ wy = wx.drewN na1)
        case first =>
          have o1 : (FloatKind.f64.format.order g 0 == some Ordering.gt) = (ford (cn g) 0 == some .gt) := by rw [order_cn, cn_zero]
          have o2 : (FloatKind.f64.format.order v1 0 == some Ordering.gt || FloatKind.f64.format.order v1 0 == some Ordering.eq) = fge (cn v1) 0 := by rw [order_cn, cn_zero]; rfl
          have HE : Hid (extG counter (cn g) (cn v1) = (counter && (ford (cn g) 0 == some .gt) && fge (cn v1) 0)) := rfl
          have O2 := Lib.hid o2
          clear o2
          cases counter with
          | false =>
            clear o1
            go_wp2_with fail
            go_meet
            exact ⟨by rw [HE.out]; rfl, rfl⟩
          | true =>
            obtain ⟨c0, hc0⟩ : ∃ c, c = (ford (cn g) 0 == some .gt) := ⟨_, rfl⟩
            rw [← hc0] at o1 HE
            clear hc0
            cases c0 with
            | false =>
              go_wp2_with fail
              go_meet
              exact ⟨by rw [HE.out]; rfl, rfl⟩
            | true =>
              go_wp2_with fail
              go_meet
              exact ⟨by rw [HE.out, ← O2.out]; rfl, rfl⟩
        case rest =>
          obtain ⟨rfl, rfl⟩ := hcut
          obtain ⟨c2, hc2⟩ : ∃ c, c = extG counter (cn g) (cn v1) := ⟨_, rfl⟩
          rw [← hc2]
          have HC2 := Lib.hid hc2
          clear hc2
          go_upto_if 115 with fail
          go_cut [13] (fun s13 wy => GCut (extMr c2 (cn a1) (cn r) (cn v1) (cn g)) wx s13 wy)
          case first =>
            cases c2 with
            | false =>
              go_wp2_with fail
              go_meet
              exact ⟨a1, _, rfl, rfl, by first | rfl | exact World.drewN_drewN .. | exact dr3 _ _ _ _ | exact dr4 _ _ _ _ _⟩
            | true =>
              have tok2 : True := trivial
              go_upto_if 124 with (first | (have _t := tok2; clear tok2 _t; refine wpList_fop _ _ _ _ _ _ _ rfl rfl rfl ?_; intro r7 n7 h7; have H7 := Lib.hid h7; clear h7) | (refine wpList_fop _ _ _ _ _ _ _ rfl rfl rfl ?_; intro r8 n8 h8; have H8 := Lib.hid h8; clear h8))
              have ho : (FloatKind.f64.format.order r8 a1 == some Ordering.lt) = flt (cn r8) (cn a1) := by rw [order_cn]; rfl
              rw [ho]
              clear ho
              have HZ : Hid (cn r8 = fmul (cn r) (fdiv (cn v1) (cn g))) := by show _ = _; rw [H8.out, H7.out, fop_mul, fop_quo]
              obtain ⟨cc, hcc⟩ : ∃ c, c = flt (cn r8) (cn a1) := ⟨_, rfl⟩
              rw [← hcc]
              have HCC := Lib.hid hcc
              clear hcc
              cases cc with
              | true =>
                go_wp2_with fail
                go_meet
                exact ⟨r8, _, rfl, by unfold extMr; rw [if_pos rfl, ← HZ.out, if_pos HCC.out.symm], by first | rfl | exact World.drewN_drewN .. | exact dr3 _ _ _ _ | exact dr4 _ _ _ _ _⟩
              | false =>
                go_wp2_with fail
                go_meet
                exact ⟨a1, _, rfl, by unfold extMr; rw [if_pos rfl, ← HZ.out, if_neg (by rw [← HCC.out]; simp)], by first | rfl | exact World.drewN_drewN .. | exact dr3 _ _ _ _ | exact dr4 _ _ _ _ _⟩
          case rest =>
            obtain ⟨a2, na2, rfl, ha2, rfl⟩ := hcut
            have HA2 := Lib.hid ha2
            clear ha2
            go_upto_if 128 with fail
            go_cut [14] (fun s14 wy => GCut (extA (cn rb) (cn rm) (cn rq)) wx s14 wy)
            case first =>
              have ho : (FloatKind.f64.format.order rb rm == some Ordering.gt || FloatKind.f64.format.order rb rm == some Ordering.eq) = fge (cn rb) (cn rm) := by rw [order_cn]; rfl
              have HX9 : Hid (extA (cn rb) (cn rm) (cn rq) = if fge (cn rb) (cn rm) = true then fdiv (cn rq) two' else cn rb) := rfl
              rw [ho]
              clear ho
              obtain ⟨cc, hcc⟩ : ∃ c, c = fge (cn rb) (cn rm) := ⟨_, rfl⟩
              rw [← hcc]
              have HCC := Lib.hid hcc
              clear hcc
              cases cc with
              | true =>
                go_wp2_with (refine wpList_fop _ _ _ _ _ _ _ rfl rfl rfl ?_; intro r9 n9 h9; have H9 := Lib.hid h9; clear h9)
                go_meet
                exact ⟨r9, _, rfl, by rw [H9.out, HX9.out, if_pos HCC.out.symm, fop_quo]; rfl, by first | rfl | exact World.drewN_drewN .. | exact dr3 _ _ _ _ | exact dr4 _ _ _ _ _⟩
              | false =>
                go_wp2_with fail
                go_meet
                exact ⟨rb, _, rfl, by rw [HX9.out, if_neg (by rw [← HCC.out]; simp)], by first | rfl | exact World.drewN_drewN .. | exact dr3 _ _ _ _ | exact dr4 _ _ _ _ _⟩
            case rest =>
              obtain ⟨b9, nb9, rfl, hb9, rfl⟩ := hcut
              have HB9 := Lib.hid hb9
              clear hb9
              have HPS : Hid (∀ w1, Calls Tryz.prog 26 #[.int .i64 (wrap64 (T - F))] w1 (FRet (secF (wrap64 (T - F))) w1)) := fun w1 => rsecs_any _ w1
              have HFIN : Hid (∀ f2 x : Nat, cn f2 = extF perSec (fdiv (fadd (fadd (cn r) (cn a2)) (cn b9)) (cn r)) (secF (wrap64 (T - F))) → cn x = fmul (cn g) (cn f2) → cn x = extCr (vcs ss) (tS ss) m F T counter perSec) := fun f2 x h1 h2 => by
                rw [h2, h1]
                unfold extCr
                rw [HA2.out, HB9.out, HA1.out, HHC.out, HMC.out, HRA.out, HRB.out, HRC.out, HC2.out, HG.out, HV1.out, ← HT1.out, ← HT2.out]
              have tok3 : True := trivial
              have tok4 : True := trivial
              cases perSec with
              | false =>
                go_wp2_with (first | (have _t := tok3; clear tok3 _t; refine wpList_fop _ _ _ _ _ _ _ rfl rfl rfl ?_; intro q1 k1 hq1; have Q1 := Lib.hid hq1; clear hq1) | (have _t := tok4; clear tok4 _t; refine wpList_fop _ _ _ _ _ _ _ rfl rfl rfl ?_; intro q2 k2 hq2; have Q2 := Lib.hid hq2; have tok5 : True := trivial; clear hq2) | (have _t := tok5; clear tok5 _t; refine wpList_fop _ _ _ _ _ _ _ rfl rfl rfl ?_; intro q3 k3 hq3; have Q3 := Lib.hid hq3; clear hq3) | (refine wpList_fop _ _ _ _ _ _ _ rfl rfl rfl ?_; intro q4 k4 hq4; have Q4 := Lib.hid hq4; clear hq4))
                go_ret2
                exact ⟨q4, rfl, HFIN.out q3 q4 (by rw [Q3.out, Q2.out, Q1.out]; rfl) (by rw [Q4.out]; rfl), by repeat (first | exact BX.out | apply Below.drewN')⟩
              | true =>
                go_wp2_with (first | (go_at_call 26; ((with_reducible refine (HPS.out _).mono ?_); rintro e w8 ⟨r8, n8, rfl, h8, rfl⟩; have H8 := Lib.hid h8; have tok6 : True := trivial; clear h8)) | (have _t := tok3; clear tok3 _t; refine wpList_fop _ _ _ _ _ _ _ rfl rfl rfl ?_; intro q1 k1 hq1; have Q1 := Lib.hid hq1; clear hq1) | (have _t := tok4; clear tok4 _t; refine wpList_fop _ _ _ _ _ _ _ rfl rfl rfl ?_; intro q2 k2 hq2; have Q2 := Lib.hid hq2; have tok5 : True := trivial; clear hq2) | (have _t := tok5; clear tok5 _t; refine wpList_fop _ _ _ _ _ _ _ rfl rfl rfl ?_; intro q3 k3 hq3; have Q3 := Lib.hid hq3; clear hq3) | (have _t := tok6; clear tok6 _t; refine wpList_fop _ _ _ _ _ _ _ rfl rfl rfl ?_; intro q5 k5 hq5; have Q5 := Lib.hid hq5; clear hq5) | (refine wpList_fop _ _ _ _ _ _ _ rfl rfl rfl ?_; intro q4 k4 hq4; have Q4 := Lib.hid hq4; clear hq4))
                go_ret2
                exact ⟨q4, rfl, HFIN.out q5 q4 (by rw [Q5.out, Q3.out, Q2.out, Q1.out, H8.out]; rfl) (by rw [Q4.out]; rfl), by repeat (first | exact BX.out | apply Below.drewN')⟩
end Go.Proofs.YtoeldcgclaiokaaGreat
