/- over.Extrapolate: what it answers. -/
import Derived.Test.YtoeldcgclaiokaaGreatInstA
import Derived.Test.YtoeldcgclaiokaaGreatFlMin
import Derived.Deep.Cut
import Derived.Deep.DeepCutAuto
import Derived.Deep.CutBlock
import Derived.Deep.QuietTactic
import Derived.BigQuiet
namespace Go.Proofs.YtoeldcgclaiokaaGreat
open Go.Fl Go.Rel Go.RowKit

/-- The growth when k steps are looked at. -/
def gK (vs : List Nat) (n : Nat) : Nat → Nat
  | 0 => fsub (at0 vs (n - 1)) (at0 vs 0)
  | k + 1 => if flt (at0 vs (k + 1)) (at0 vs k) = true then fadd (gK vs n k) (at0 vs k) else gK vs n k
def gC (vs : List Nat) (n : Nat) (counter : Bool) : Nat := if counter = true then gK vs n (n - 1) else gK vs n 0

def GRel (vs : List Nat) (n : Nat) (counter : Bool) (W : World) (vg vi : Value) (wr : World) : Prop :=
  ∃ k nd r : Nat, vi = .int .i64 ((k : Int) + 1) ∧ vg = .float .f64 r ∧ cn r = gK vs n k ∧ k + 1 ≤ n ∧ wr = W.drewN nd ∧ (counter = false → k = 0)

def PCut (t1 t2 : Int) (v1 v2 : Nat) (w1 : World) (s9 s10 : Value) (wx : World) : Prop :=
  ∃ P1 P2 : Nat, s9 = .pointer (some ⟨P1, 0, none⟩) ∧ s10 = .pointer (some ⟨P2, 0, none⟩) ∧ wx.cell? ⟨P1, 0, none⟩ = some (.int .i64 t1) ∧ wx.cell? ⟨P1, 1, none⟩ = some (.float .f64 v1) ∧ wx.cell? ⟨P2, 0, none⟩ = some (.int .i64 t2) ∧ wx.cell? ⟨P2, 1, none⟩ = some (.float .f64 v2) ∧ Below w1.heap.size w1 wx
def GCut (c : Nat) (W : World) (s : Value) (wx : World) : Prop := ∃ r nd : Nat, s = .float .f64 r ∧ cn r = c ∧ wx = W.drewN nd

theorem dr3 (w : World) (a b c : Nat) : ((w.drewN a).drewN b).drewN c = w.drewN (a + (b + c)) := by rw [World.drewN_drewN, World.drewN_drewN]
theorem dr4 (w : World) (a b c d : Nat) : (((w.drewN a).drewN b).drewN c).drewN d = w.drewN (a + (b + (c + d))) := by rw [World.drewN_drewN, dr3]

def two' : Nat := 4611686018427387904
def elev : Nat := 4607632778762754458
def extA (A H M : Nat) : Nat := if fge A H = true then fdiv M two' else A

def extG (counter : Bool) (g v : Nat) : Bool := counter && (ford g 0 == some .gt) && fge v 0
def extM (c : Bool) (a s v g : Nat) : Nat := if c = true then fmin a (fmul s (fdiv v g)) else a

def extF (p : Bool) (f d : Nat) : Nat := if p = true then fdiv f d else f
/-- What is answered of m + 2 points. -/
def extC (vs : List Nat) (ts : Nat → Int) (m : Nat) (F T : Int) (counter perSec : Bool) : Nat :=
  let G := gC vs (m + 2) counter
  let S := secF (wrap64 (ts (m + 1) - ts 0))
  let M := fdiv S (nfl (m + 1))
  let H := fmul M elev
  fmul G (extF perSec (fdiv (fadd (fadd S (extM (extG counter G (at0 vs 0)) (extA (secF (wrap64 (ts 0 - F))) H M) S (at0 vs 0) G)) (extA (secF (wrap64 (T - ts (m + 1)))) H M)) S) (secF (wrap64 (T - F))))
def extO (ss : List Smp) (n : Nat) (F T N : Int) (counter perSec : Bool) : Option Nat := if n < 2 ∨ sndB F T N ss n = false then none else some (extC (vcs ss) (tS ss) (n - 2) F T counter perSec)

def RcS (_f : FuncId) (args : Array Value) (v : Value) : Prop := ∃ r, v = .float .f64 r ∧ ∀ z, args = #[.int .i64 z] → cn r = secF z
theorem rcs_secs {wx : World} (wd : World) (z : Int) (hd : ∃ nd, wd = wx.drewN nd) : Calls Tryz.prog 25 #[.int .i64 z] wd fun e w2 => ∃ v, e = .returned v ∧ RcS 25 #[.int .i64 z] v ∧ ∃ nd, w2 = wx.drewN nd := by
  obtain ⟨nd, rfl⟩ := hd
  refine (secs_any z _).mono ?_
  rintro e w2 ⟨r, n, rfl, hr, rfl⟩
  exact ⟨_, rfl, ⟨r, rfl, fun z' hz => by injection hz with h1; injection h1 with h2; injection h2 with h3 h4; subst h4; exact hr⟩, _, World.drewN_drewN ..⟩

theorem gcut_true {vs : List Nat} {m q nd : Nat} {W : World} (h : cn q = gK vs (m + 2) (m + 1)) : GCut (gC vs (m + 2) true) W (.float .f64 q) (W.drewN nd) := ⟨q, nd, rfl, h.trans (by unfold gC; rw [if_pos rfl]; rfl), rfl⟩

/-- A call of seconds in a region that draws its order. -/
theorem wpRel_secs {ops : Array Oper} {rest : List Oper} {a : Act} {wx : World} {Q' : Act → Prop} {dst : Option Tmp} {ty : TypeId} {pos : String} {after : Array Edge} {guard : Option (Nat × Bool)} {ats : Array TypeId} (x : Operand)
    (hg : Region.wanted { dst, op := .call { callee := .value (.func 25), args := #[x], argTypes := ats }, type := ty, pos, after, guard } (yielded ops a.tmps) = true)
    (z : Int) (hx : a.eval x = .int .i64 z)
    (h : ∀ r, cn r = secF z → wpQuiet Tryz.prog ops (fun wd => ∃ nd, wd = wx.drewN nd) (fun a' => wpRel Tryz.prog ops (fun wd => ∃ nd, wd = wx.drewN nd) RcS Q' rest a') [{ dst, op := .move (.const (.float .f64 r)), type := ty, pos, after := #[], guard := none }] a) :
    wpRel Tryz.prog ops (fun wd => ∃ nd, wd = wx.drewN nd) RcS Q' ({ dst, op := .call { callee := .value (.func 25), args := #[x], argTypes := ats }, type := ty, pos, after, guard } :: rest) a := by
  refine wpRel_call 25 Tryz.f25 #[x] ats #[.int .i64 z] hg Tryz.func25 (by kernel_rfl) (by kernel_rfl) (by simp [hx]) (fun wd hd => rcs_secs wd z hd) ?_
  rintro v ⟨r, rfl, hr⟩
  exact h r (hr z rfl)

set_option maxHeartbeats 8000000 in
set_option maxRecDepth 1000000 in
theorem ext_main (m cap : Nat) (a : Option Addr) (ss : List Smp) (F T N : Int) (counter perSec : Bool) (w : World) (hr : SRow w a (m + 2) ss) (hs : sndB F T N ss (m + 2) = true) :
    Calls Tryz.prog 13 #[winV a (m + 2) cap F T N, .bool counter, .bool perSec] w (OptRet (some (extC (vcs ss) (tS ss) m F T counter perSec)) w) := by
  have hn := hr.2.1
  have dd : decide (((m + 2 : Nat) : Int) < 2) = false := decide_eq_false (by omega)
  have HS : Hid (∀ w1, Below w.heap.size w w1 → Calls Tryz.prog 23 #[winV a (m + 2) cap F T N] w1 (BoolB true w1)) := fun w1 hb => by
    have := sound_any a (m + 2) cap ss F T N w1 (hr.below hb)
    rw [hs] at this
    exact this
  have HB0 : Hid (Below w.heap.size w (w.alloc (.cells #[.slice a (m + 2) cap, .int .i64 F, .int .i64 T, .int .i64 N] 24))) := (Below.refl _ _).alloc (Nat.le_refl _) _
  have HR := Lib.hid hr
  clear hr hs
  go_enter Tryz.func13, Tryz.ntmps13
  go_wp2_with (go_at_call 23; ((with_reducible refine (HS.out _ HB0.out).mono ?_); rintro e w1 ⟨rfl, b1⟩; have BW := Lib.hid (HB0.out.trans (b1.mono HB0.out.size)); have cw0 : w1.cell? ⟨w.heap.size, 0, none⟩ = some (.slice a (m + 2) cap) := (by rw [b1.cell (p := ⟨w.heap.size, 0, none⟩) (by simp), World.cell?_alloc_at _ _ _ _ rfl]; rfl); have cw1 : w1.cell? ⟨w.heap.size, 1, none⟩ = some (.int .i64 F) := (by rw [b1.cell (p := ⟨w.heap.size, 1, none⟩) (by simp), World.cell?_alloc_at _ _ _ _ rfl]; rfl); have cw2 : w1.cell? ⟨w.heap.size, 2, none⟩ = some (.int .i64 T) := (by rw [b1.cell (p := ⟨w.heap.size, 2, none⟩) (by simp), World.cell?_alloc_at _ _ _ _ rfl]; rfl); have hbs : w.heap.size < w1.heap.size := (by have := b1.size; simp at this; omega); clear b1))
  obtain ⟨b, off, ha, hcell⟩ := ((HR.out).below (show Below w.heap.size w w1 from BW.out)).2.2.2 (by omega)
  subst ha
  obtain ⟨e0, e1, e2⟩ := hcell 0 (by omega)
  obtain ⟨f0, f1, f2⟩ := hcell (m + 1) (by omega)
  simp only [Nat.zero_mul, Nat.add_zero] at e0 e1 e2
  have hblt : b < w1.heap.size := World.block_lt_of_cell? w1 _ e1
  have HC : Hid (∀ k, k < m + 2 → w1.cell? ⟨b, off + k * 3 + 1, none⟩ = some (.float .f64 (vS ss k))) := fun k hk => (hcell k hk).2.1
  clear hcell
  have hlen : (m : Int) + 2 ≤ 9223372036854775807 := by omega
  obtain ⟨t1, ht1⟩ : ∃ q, q = tS ss 0 := ⟨_, rfl⟩
  obtain ⟨v1, hv1⟩ : ∃ q, q = vS ss 0 := ⟨_, rfl⟩
  obtain ⟨s1, hs1⟩ : ∃ q, q = sS ss 0 := ⟨_, rfl⟩
  obtain ⟨t2, ht2⟩ : ∃ q, q = tS ss (m + 1) := ⟨_, rfl⟩
  obtain ⟨v2, hv2⟩ : ∃ q, q = vS ss (m + 1) := ⟨_, rfl⟩
  obtain ⟨s2, hs2⟩ : ∃ q, q = sS ss (m + 1) := ⟨_, rfl⟩
  have HT1 := Lib.hid ht1
  have HT2 := Lib.hid ht2
  have HV1 : Hid (at0 (vcs ss) 0 = cn v1) := by show _ = _; rw [at0_vcs ss (by rw [HR.out.1]; omega), hv1]
  have HV2 : Hid (at0 (vcs ss) (m + 1) = cn v2) := by show _ = _; rw [at0_vcs ss (by rw [HR.out.1]; omega), hv2]
  simp only [← ht1, ← hv1, ← hs1] at e0 e1 e2
  simp only [← ht2, ← hv2, ← hs2] at f0 f1 f2
  clear ht1 hv1 hs1 ht2 hv2 hs2
  go_cut [9, 10] (fun s9 s10 wx => PCut t1 t2 v1 v2 w1 s9 s10 wx)
  case first =>
    have OLD1 : ∀ (q : Addr) v, w1.cell? q = some v → ∀ o1, (w1.alloc o1).cell? q = some v := fun q v h o1 => cell_old h o1
    have OLD : ∀ (q : Addr) v, w1.cell? q = some v → ∀ o1 o2, ((w1.alloc o1).alloc o2).cell? q = some v := fun q v h o1 o2 => cell_old (cell_old h o1) o2
    have hw1 : IntKind.i64.wrap ((m : Int) + 1) = (m : Int) + 1 := by rw [IntKind.wrap_i64]; omega
    have p0 := OLD1 _ _ cw0
    have p1 := OLD1 _ _ e0
    have p2 := OLD1 _ _ e1
    have p3 := OLD1 _ _ e2
    have p4 := OLD1 _ _ f0
    have p5 := OLD1 _ _ f1
    have p6 := OLD1 _ _ f2
    have g0 := OLD _ _ cw0
    have g1 := OLD _ _ e0
    have g2 := OLD _ _ e1
    have g3 := OLD _ _ e2
    have g4 := OLD _ _ f0
    have g5 := OLD _ _ f1
    have g6 := OLD _ _ f2
    clear OLD OLD1
    have hs1 : w1.heap.size ≤ w1.heap.size := Nat.le_refl _
    go_region
    · go_wp2_with fail
      go_meet
      exact ⟨w1.heap.size, w1.heap.size + 1, rfl, rfl, by simp, by simp, by simp, by simp, (((Below.refl _ _).alloc hs1 _).alloc (by simp) _).drewN' 1⟩
    · go_wp2_with fail
      go_meet
      exact ⟨w1.heap.size + 1, w1.heap.size, rfl, rfl, by simp, by simp, by simp, by simp, (((Below.refl _ _).alloc hs1 _).alloc (by simp) _).drewN' 1⟩
  case rest =>
    obtain ⟨wx, hwx⟩ : ∃ wx, wx = wc := ⟨_, rfl⟩
    subst hwx
    obtain ⟨P1, P2, rfl, rfl, x0, x1, x2, x3, bx⟩ := hcut
    have y0 : wx.cell? ⟨w.heap.size, 0, none⟩ = some (.slice (some ⟨b, off, none⟩) (m + 2) cap) := by rw [bx.cell (p := ⟨w.heap.size, 0, none⟩) hbs]; exact cw0
    have y1 : wx.cell? ⟨w.heap.size, 1, none⟩ = some (.int .i64 F) := by rw [bx.cell (p := ⟨w.heap.size, 1, none⟩) hbs]; exact cw1
    have y2 : wx.cell? ⟨w.heap.size, 2, none⟩ = some (.int .i64 T) := by rw [bx.cell (p := ⟨w.heap.size, 2, none⟩) hbs]; exact cw2
    have HX : Hid (∀ k, k < m + 2 → wx.cell? ⟨b, off + k * 3 + 1, none⟩ = some (.float .f64 (vS ss k))) := fun k hk => by rw [bx.cell (p := ⟨b, off + k * 3 + 1, none⟩) hblt]; exact HC.out k hk
    have BX := Lib.hid (BW.out.trans (bx.mono BW.out.size))
    clear cw0 cw1 cw2 e0 e1 e2 f0 f1 f2 bx hbs hblt
    go_upto_block 0 with (refine wpList_fop _ _ _ _ _ _ _ rfl rfl rfl ?_; intro r nq hr9; have Hr9 := Lib.hid hr9; clear hr9)
    go_cut [11] (fun s11 wy => GCut (gC (vcs ss) (m + 2) counter) wx s11 wy)
    case first =>
      go_wp2_with fail
      go_loopw [11, 12] (GRel (vcs ss) (m + 2) counter wx) (fun _ vi _ => m + 3 - (intOf vi).toNat)
      case atStart => exact ⟨0, nq, r, rfl, rfl, by rw [Hr9.out, fop_sub]; show _ = fsub (at0 (vcs ss) (m + 1)) _; rw [HV1.out, HV2.out], by omega, rfl, fun _ => rfl⟩
      case round =>
        obtain ⟨k, nd, q, rfl, rfl, hq, hk, rfl, hck⟩ := hrel
        have HQ := Lib.hid hq
        clear hq
        cases counter with
        | false =>
          have hk0 := hck rfl
          subst hk0
          go_wp2_with fail
          go_meet
          exact ⟨q, nd, rfl, by rw [HQ.out]; rfl, rfl⟩
        | true =>
          clear hck
          by_cases hlt : k + 1 < m + 2
          · have hlt2 : (k : Int) + 1 < (m : Int) + 2 := by omega
            have c1 := HX.out k (by omega)
            have c2 := HX.out (k + 1) hlt
            have hwk : IntKind.i64.wrap ((k : Int) + 1 - 1) = (k : Int) := by rw [IntKind.wrap_i64]; omega
            have HVA : Hid (at0 (vcs ss) k = cn (vS ss k)) := at0_vcs ss (by rw [HR.out.1]; omega)
            have HVB : Hid (at0 (vcs ss) (k + 1) = cn (vS ss (k + 1))) := at0_vcs ss (by rw [HR.out.1]; omega)
            obtain ⟨u, hu⟩ : ∃ q, q = vS ss k := ⟨_, rfl⟩
            obtain ⟨v, hv⟩ : ∃ q, q = vS ss (k + 1) := ⟨_, rfl⟩
            rw [← hu] at c1 HVA
            rw [← hv] at c2 HVB
            clear hu hv
            cases hl : flt (cn v) (cn u) with
            | true =>
              have ho : (FloatKind.f64.format.order v u == some Ordering.lt) = true := by rw [order_cn]; exact hl
              have HL := Lib.hid hl
              clear hl
              go_wp2_with fail
              go_quiet (fail)
              go_wp2_with (refine wpList_fop _ _ _ _ _ _ _ rfl rfl rfl ?_; intro r2 nq2 hr2; have Hr2 := Lib.hid hr2; clear hr2)
              go_roundw
              case rel => exact ⟨k + 1, _, r2, by rw [show (((k + 1 : Nat) : Int) + 1) = (k : Int) + 1 + 1 by omega], rfl, by rw [Hr2.out, fop_add, HQ.out]; show _ = if flt (at0 (vcs ss) (k + 1)) (at0 (vcs ss) k) = true then _ else _; rw [HVA.out, HVB.out, if_pos HL.out], by omega, by first | rfl | exact World.drewN_drewN .. | exact dr3 _ _ _ _ | exact dr4 _ _ _ _ _, fun h => by cases h⟩
              case measure => simp [intOf]; omega
            | false =>
              have ho : (FloatKind.f64.format.order v u == some Ordering.lt) = false := by rw [order_cn]; exact hl
              have HL := Lib.hid hl
              clear hl
              go_wp2_with fail
              go_quiet (fail)
              go_wp2_with fail
              go_roundw
              case rel => exact ⟨k + 1, _, q, by rw [show (((k + 1 : Nat) : Int) + 1) = (k : Int) + 1 + 1 by omega], rfl, by rw [HQ.out]; show _ = if flt (at0 (vcs ss) (k + 1)) (at0 (vcs ss) k) = true then _ else _; rw [HVA.out, HVB.out, if_neg (by rw [HL.out]; simp)], by omega, by first | rfl | exact World.drewN_drewN .. | exact dr3 _ _ _ _ | exact dr4 _ _ _ _ _, fun h => by cases h⟩
              case measure => simp [intOf]; omega
          · have hk2 : k + 1 = m + 2 := by omega
            obtain rfl : k = m + 1 := by omega
            clear hk2 hlt hk
            clear hn hlen dd
            go_wp2_with fail
            go_meet
            exact gcut_true HQ.out
    case rest =>
      obtain ⟨wy, hwy⟩ : ∃ wx, wx = wc := ⟨_, rfl⟩
      subst hwy
      obtain ⟨g, ng, rfl, hg, rfl⟩ := hcut
      have HG := Lib.hid hg
      clear hg hn dd
      go_wp2_with fail
      refine wp_region_rel (fun wd => ∃ nd, wd = wx.drewN nd) RcS (by kernel_rfl) (by kernel_rfl) (by repeat (first | exact ⟨_, rfl⟩ | refine drew_class _ _ ?_ | refine drewN_class _ _ _ ?_)) ?_
      repeat (first | (refine wpRel_secs _ rfl _ rfl ?_; intro r hr; go_big_quiet_step (fail); refine wpQuiet_nil ?_) | (refine wpRel_quiet rfl ?_; go_big_quiet_step (fail); refine wpQuiet_nil ?_))
      refine wpRel_nil ?_
      rintro wz ⟨n1, rfl⟩
      rename_i ra hra rb hrb
      have HRA := Lib.hid hra
      have HRB := Lib.hid hrb
      have HRC := Lib.hid hr
      clear hra hrb hr
      have tok1 : True := trivial
      go_upto_if 102 with (first | (have _t := tok1; clear tok1 _t; refine wpList_fop _ _ _ _ _ _ _ rfl rfl rfl ?_; intro rq nq2 hq2; have HQ2 := Lib.hid hq2; clear hq2) | (refine wpList_fop _ _ _ _ _ _ _ rfl rfl rfl ?_; intro rm nm hm; have HM := Lib.hid hm; clear hm))
      have HMC : Hid (cn rq = fdiv (secF (wrap64 (t2 - t1))) (nfl (m + 1))) := by show _ = _; rw [HQ2.out, fop_quo, HRC.out, show (m : Int) + 2 - 1 = ((m + 1 : Nat) : Int) by omega]; exact congrArg (fdiv _) (cn_nfl (m + 1))
      have HHC : Hid (cn rm = fmul (cn rq) elev) := by show _ = _; rw [HM.out, fop_mul]; rfl
      clear HQ2 HM hlen
      go_cut [13] (fun s13 wy => GCut (extA (cn ra) (cn rm) (cn rq)) wx s13 wy)
      case first =>
        have ho : (FloatKind.f64.format.order ra rm == some Ordering.gt || FloatKind.f64.format.order ra rm == some Ordering.eq) = fge (cn ra) (cn rm) := by rw [order_cn]; rfl
        have HX9 : Hid (extA (cn ra) (cn rm) (cn rq) = if fge (cn ra) (cn rm) = true then fdiv (cn rq) two' else cn ra) := rfl
        rw [ho]
        clear ho
        obtain ⟨cc, hcc⟩ : ∃ c, c = fge (cn ra) (cn rm) := ⟨_, rfl⟩
        rw [← hcc]
        have HCC := Lib.hid hcc
        clear hcc
        cases cc with
        | true =>
          go_wp2_with (refine wpList_fop _ _ _ _ _ _ _ rfl rfl rfl ?_; intro r9 n9 h9; have H9 := Lib.hid h9; clear h9)
          go_meet
          exact ⟨r9, _, rfl, by rw [H9.out, HX9.out, if_pos HCC.out.symm, fop_quo]; rfl, by first | rfl | exact World.drewN_drewN .. | exact dr3 _ _ _ _ | exact dr4 _ _ _ _ _⟩
        | false =>
          go_wp2_with fail
          go_meet
          exact ⟨ra, _, rfl, by rw [HX9.out, if_neg (by rw [← HCC.out]; simp)], by first | rfl | exact World.drewN_drewN .. | exact dr3 _ _ _ _ | exact dr4 _ _ _ _ _⟩
      case rest =>
        obtain ⟨a1, na1, rfl, ha1, rfl⟩ := hcut
        have HA1 := Lib.hid ha1
        clear ha1
        go_upto_region 16 with fail
        go_cut [114] (fun s114 wy => s114 = .bool (extG counter (cn g) (cn v1)) ∧ wy = wx.drewN na1)
        case first =>
          have o1 : (FloatKind.f64.format.order g 0 == some Ordering.gt) = (ford (cn g) 0 == some .gt) := by rw [order_cn, cn_zero]
          have o2 : (FloatKind.f64.format.order v1 0 == some Ordering.gt || FloatKind.f64.format.order v1 0 == some Ordering.eq) = fge (cn v1) 0 := by rw [order_cn, cn_zero]; rfl
          have HE : Hid (extG counter (cn g) (cn v1) = (counter && (ford (cn g) 0 == some .gt) && fge (cn v1) 0)) := rfl
          have O2 := Lib.hid o2
          clear o2
          cases counter with
          | false =>
            clear o1
            go_wp2_with fail
            go_meet
            exact ⟨by rw [HE.out]; rfl, rfl⟩
          | true =>
            obtain ⟨c0, hc0⟩ : ∃ c, c = (ford (cn g) 0 == some .gt) := ⟨_, rfl⟩
            rw [← hc0] at o1 HE
            clear hc0
            cases c0 with
            | false =>
              go_wp2_with fail
              go_meet
              exact ⟨by rw [HE.out]; rfl, rfl⟩
            | true =>
              go_wp2_with fail
              go_meet
              exact ⟨by rw [HE.out, ← O2.out]; rfl, rfl⟩
        case rest =>
          obtain ⟨rfl, rfl⟩ := hcut
          obtain ⟨c2, hc2⟩ : ∃ c, c = extG counter (cn g) (cn v1) := ⟨_, rfl⟩
          rw [← hc2]
          have HC2 := Lib.hid hc2
          clear hc2
          go_upto_if 114 with fail
          go_cut [13] (fun s13 wy => GCut (extM c2 (cn a1) (cn r) (cn v1) (cn g)) wx s13 wy)
          case first =>
            cases c2 with
            | false =>
              go_wp2_with fail
              go_meet
              exact ⟨a1, _, rfl, rfl, by first | rfl | exact World.drewN_drewN .. | exact dr3 _ _ _ _ | exact dr4 _ _ _ _ _⟩
            | true =>
              have tok2 : True := trivial
              go_wp2_with (first | (have _t := tok2; clear tok2 _t; refine wpList_fop _ _ _ _ _ _ _ rfl rfl rfl ?_; intro r7 n7 h7; have H7 := Lib.hid h7; clear h7) | (refine wpList_fop _ _ _ _ _ _ _ rfl rfl rfl ?_; intro r8 n8 h8; have H8 := Lib.hid h8; clear h8) | (refine wpList_fmin _ _ _ _ rfl rfl ?_; intro r9 n9 h9; have H9 := Lib.hid h9; clear h9))
              go_meet
              exact ⟨r9, _, rfl, by rw [H9.out, H8.out, H7.out, fop_mul, fop_quo]; rfl, by first | rfl | exact World.drewN_drewN .. | exact dr3 _ _ _ _ | exact dr4 _ _ _ _ _⟩
          case rest =>
            obtain ⟨a2, na2, rfl, ha2, rfl⟩ := hcut
            have HA2 := Lib.hid ha2
            clear ha2
            go_upto_if 125 with fail
            go_cut [14] (fun s14 wy => GCut (extA (cn rb) (cn rm) (cn rq)) wx s14 wy)
            case first =>
              have ho : (FloatKind.f64.format.order rb rm == some Ordering.gt || FloatKind.f64.format.order rb rm == some Ordering.eq) = fge (cn rb) (cn rm) := by rw [order_cn]; rfl
              have HX9 : Hid (extA (cn rb) (cn rm) (cn rq) = if fge (cn rb) (cn rm) = true then fdiv (cn rq) two' else cn rb) := rfl
              rw [ho]
              clear ho
              obtain ⟨cc, hcc⟩ : ∃ c, c = fge (cn rb) (cn rm) := ⟨_, rfl⟩
              rw [← hcc]
              have HCC := Lib.hid hcc
              clear hcc
              cases cc with
              | true =>
                go_wp2_with (refine wpList_fop _ _ _ _ _ _ _ rfl rfl rfl ?_; intro r9 n9 h9; have H9 := Lib.hid h9; clear h9)
                go_meet
                exact ⟨r9, _, rfl, by rw [H9.out, HX9.out, if_pos HCC.out.symm, fop_quo]; rfl, by first | rfl | exact World.drewN_drewN .. | exact dr3 _ _ _ _ | exact dr4 _ _ _ _ _⟩
              | false =>
                go_wp2_with fail
                go_meet
                exact ⟨rb, _, rfl, by rw [HX9.out, if_neg (by rw [← HCC.out]; simp)], by first | rfl | exact World.drewN_drewN .. | exact dr3 _ _ _ _ | exact dr4 _ _ _ _ _⟩
            case rest =>
              obtain ⟨b9, nb9, rfl, hb9, rfl⟩ := hcut
              have HB9 := Lib.hid hb9
              clear hb9
              have HPS : Hid (∀ w1, Calls Tryz.prog 25 #[.int .i64 (wrap64 (T - F))] w1 (FRet (secF (wrap64 (T - F))) w1)) := fun w1 => secs_any _ w1
              have HFIN : Hid (∀ f2 x : Nat, cn f2 = extF perSec (fdiv (fadd (fadd (cn r) (cn a2)) (cn b9)) (cn r)) (secF (wrap64 (T - F))) → cn x = fmul (cn g) (cn f2) → cn x = extC (vcs ss) (tS ss) m F T counter perSec) := fun f2 x h1 h2 => by
                rw [h2, h1]
                unfold extC
                rw [HA2.out, HB9.out, HA1.out, HHC.out, HMC.out, HRA.out, HRB.out, HRC.out, HC2.out, HG.out, HV1.out, ← HT1.out, ← HT2.out]
              have tok3 : True := trivial
              have tok4 : True := trivial
              cases perSec with
              | false =>
                go_wp2_with (first | (have _t := tok3; clear tok3 _t; refine wpList_fop _ _ _ _ _ _ _ rfl rfl rfl ?_; intro q1 k1 hq1; have Q1 := Lib.hid hq1; clear hq1) | (have _t := tok4; clear tok4 _t; refine wpList_fop _ _ _ _ _ _ _ rfl rfl rfl ?_; intro q2 k2 hq2; have Q2 := Lib.hid hq2; have tok5 : True := trivial; clear hq2) | (have _t := tok5; clear tok5 _t; refine wpList_fop _ _ _ _ _ _ _ rfl rfl rfl ?_; intro q3 k3 hq3; have Q3 := Lib.hid hq3; clear hq3) | (refine wpList_fop _ _ _ _ _ _ _ rfl rfl rfl ?_; intro q4 k4 hq4; have Q4 := Lib.hid hq4; clear hq4))
                go_ret2
                exact ⟨q4, rfl, HFIN.out q3 q4 (by rw [Q3.out, Q2.out, Q1.out]; rfl) (by rw [Q4.out]; rfl), by repeat (first | exact BX.out | apply Below.drewN')⟩
              | true =>
                go_wp2_with (first | (go_at_call 25; ((with_reducible refine (HPS.out _).mono ?_); rintro e w8 ⟨r8, n8, rfl, h8, rfl⟩; have H8 := Lib.hid h8; have tok6 : True := trivial; clear h8)) | (have _t := tok3; clear tok3 _t; refine wpList_fop _ _ _ _ _ _ _ rfl rfl rfl ?_; intro q1 k1 hq1; have Q1 := Lib.hid hq1; clear hq1) | (have _t := tok4; clear tok4 _t; refine wpList_fop _ _ _ _ _ _ _ rfl rfl rfl ?_; intro q2 k2 hq2; have Q2 := Lib.hid hq2; have tok5 : True := trivial; clear hq2) | (have _t := tok5; clear tok5 _t; refine wpList_fop _ _ _ _ _ _ _ rfl rfl rfl ?_; intro q3 k3 hq3; have Q3 := Lib.hid hq3; clear hq3) | (have _t := tok6; clear tok6 _t; refine wpList_fop _ _ _ _ _ _ _ rfl rfl rfl ?_; intro q5 k5 hq5; have Q5 := Lib.hid hq5; clear hq5) | (refine wpList_fop _ _ _ _ _ _ _ rfl rfl rfl ?_; intro q4 k4 hq4; have Q4 := Lib.hid hq4; clear hq4))
                go_ret2
                exact ⟨q4, rfl, HFIN.out q5 q4 (by rw [Q5.out, Q3.out, Q2.out, Q1.out, H8.out]; rfl) (by rw [Q4.out]; rfl), by repeat (first | exact BX.out | apply Below.drewN')⟩
end Go.Proofs.YtoeldcgclaiokaaGreat
