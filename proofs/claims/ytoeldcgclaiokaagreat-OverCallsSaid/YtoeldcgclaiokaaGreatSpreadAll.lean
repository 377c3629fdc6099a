/- weirref06.Mean: what it answers. Variance on both sides. math.Sqrt; Spread on both sides. -/
import Derived.Test.YtoeldcgclaiokaaGreatMeanAll
import Derived.Test.YtoeldcgclaiokaaGreatGrow
import Derived.Laws.Externs
namespace Go.Proofs.YtoeldcgclaiokaaGreat
open Go.Fl Go.Rel Go.RowKit

theorem take_snoc (ys : List Nat) (k : Nat) (h : k < ys.length) : ys.take (k + 1) = ys.take k ++ [at0 ys k] := by
  rw [List.take_add_one, List.getElem?_eq_getElem h]; simp [at0, List.getD, h]

theorem anyInf_snoc (ys : List Nat) (k : Nat) (h : k < ys.length) : anyInf (ys.take (k + 1)) = (anyInf (ys.take k) || finf (at0 ys k)) := by
  rw [take_snoc ys k h]; simp [anyInf, List.any_append]

def RMeanRel (ys : List Nat) (n B : Nat) (w : World) (vf vp i : Value) (wr : World) : Prop :=
  ∃ k ps, k ≤ n ∧ vf = .bool (!anyInf (ys.take k)) ∧ i = .int .i64 (k : Int) ∧ Own B wr vp ps ∧ ps.map cn = (ys.take k).map (fun y => fdiv y (nfl n)) ∧ Below B w wr

theorem rmean_step {ys ps : List Nat} {n k x r : Nat} (h : ps.map cn = (ys.take k).map (fun y => fdiv y (nfl n))) (hk : k < ys.length) (hx : at0 ys k = cn x) (hr : cn r = fop .quo (cn x) (cn (nfl n))) :
    (ps ++ [r]).map cn = (ys.take (k + 1)).map (fun y => fdiv y (nfl n)) := by
  rw [take_snoc ys k hk, List.map_append, List.map_append, h, hx]
  simp only [List.map_cons, List.map_nil]
  rw [hr, fop_quo, cn_nfl]

set_option maxHeartbeats 1000000 in
set_option maxRecDepth 100000 in
theorem refmean_any (a : Option Addr) (n cap : Nat) (xs : List Nat) (w : World) (hr : Row w a n xs) (hreach : n < 17592186044416) :
    Calls Tryz.prog 30 #[.slice a n cap] w (FB (meanS (xs.map cn)) w) := by
  have hl := hr.1
  by_cases h0 : n = 0
  · subst h0
    have hs : meanS (xs.map cn) = nanc := by unfold meanS; rw [if_pos (by simp [hl])]
    rw [hs]
    go_enter Tryz.func30, Tryz.ntmps30
    go_wp2_with (go_at_call 27; refine (refnan_any _).mono ?_; rintro e w' ⟨rfl, rfl⟩)
    go_ret
    exact ⟨nanc, rfl, cn_nanc, Below.refl _ _⟩
  · have hn : ((n : Int) == 0) = false := by simp; omega
    have hlen : (xs.map cn).length = n := by simp [hl]
    have hm := hr.2.1
    have Hlen := Lib.hid hlen
    have Hl := Lib.hid hl
    have Hreach := Lib.hid hreach
    clear hlen hl h0 hreach
    go_enter Tryz.func30, Tryz.ntmps30
    go_wp2_with (go_at_call 29; refine (refsum_any _ _ _ xs _ hr).mono ?_; rintro e w' ⟨s0, m0, rfl, hs0, rfl⟩)
    have Hs0 := Lib.hid hs0
    clear hs0
    obtain ⟨_, _, hc⟩ := hr
    go_loopw [5, 6, 7] (RMeanRel (xs.map cn) n w.heap.size w) (fun _ _ i _ => n - (intOf i).toNat)
    case atStart => exact ⟨0, [], by omega, rfl, rfl, own_nil _ _, rfl, (Below.refl _ _).drewN' _⟩
    case round =>
      obtain ⟨k, ps, hk, rfl, rfl, hown, hps, bw⟩ := hrel
      have Hps := Lib.hid hps
      clear hps
      by_cases hlt : k < n
      · obtain ⟨b, off, rfl, hcell⟩ := hc (by omega)
        have c0 := hcell k hlt
        have hblt : b < w.heap.size := World.block_lt_of_cell? w _ c0
        have ck : wr.cell? ⟨b, off + k, none⟩ = some (.float .f64 (at0 xs k)) := by rw [bw.cell (p := ⟨b, off + k, none⟩) hblt]; exact c0
        clear c0 hcell hc
        have Hat := Lib.hid (at0_map cn xs (i := k) (by rw [Hl.out]; exact hlt))
        have Hany := Lib.hid (anyInf_snoc (xs.map cn) k (by rw [Hlen.out]; exact hlt))
        have hpl : ps.length = k := by
          have := congrArg List.length Hps.out
          simp [Hl.out] at this
          omega
        have Hpl := Lib.hid hpl
        clear hpl
        cases hf : anyInf ((xs.map cn).take k)
        all_goals
          have Hf := Lib.hid hf
          clear hf
          go_wp2_with (first | (refine wpList_fop _ _ _ _ _ _ _ rfl rfl rfl ?_; intro r nq hr9; have Hr9 := Lib.hid hr9; clear hr9)  | (go_at_call 28; refine (endless_any _ _).mono ?_; rintro e w' ⟨rfl, rfl⟩)  | (at_builtin; refine wpList_append_f rfl _ _ rfl w.heap.size _ ps rfl (Own.alloc (Own.drewN hown _) _) ⟨wr.heap.size, 0, none⟩ 1 r rfl (by exact World.cell?_alloc_at _ _ _ _ rfl) (by rw [Hpl.out]; exact Nat.lt_trans hlt Hreach.out) (by have := bw.size; simp; omega) ?_; intro v' w1 hown1 hgrow1 _))
          have bw1 : Below w.heap.size w w1 := Own.below (Own.alloc (Own.drewN hown nq) _) ((bw.drewN' nq).alloc (by have := bw.size; simp; omega) _) hgrow1 (by have := bw.size; simp; omega)
          refine ⟨⟨k + 1, ps ++ [r], by omega, ?_, by go_num, hown1, rmean_step Hps.out (by rw [Hlen.out]; exact hlt) Hat.out Hr9.out, bw1⟩, by simp [intOf]; omega⟩
          rw [Hany.out, Hf.out, Hat.out]; rfl
      · have hk' : k = n := by omega
        subst hk'
        have hfull : (xs.map cn).take k = xs.map cn := List.take_of_length_le (by rw [Hlen.out]; omega)
        rw [hfull]
        have hps : ps.map cn = (xs.map cn).map (fun y => fdiv y (nfl k)) := by rw [Hps.out, hfull]
        have Hps2 := Lib.hid hps
        clear hps hfull Hps hc
        obtain ⟨a6, cap6, hv6, hrow6⟩ := hown.row
        subst hv6
        by_cases hb : finf (sumS (xs.map cn)) = true ∧ anyInf (xs.map cn) = false
        · have hs : meanS (xs.map cn) = sumS ((xs.map cn).map fun y => fdiv y (nfl k)) := by
            unfold meanS
            rw [if_neg (by rw [Hlen.out]; intro h; rw [h] at hn; simp at hn), if_pos hb, Hlen.out]
          have Hs := Lib.hid hs
          obtain ⟨hb1, hb2⟩ := hb
          rw [hb2]
          have Hb1 := Lib.hid hb1
          clear hb1 hb2 hs
          go_wp2_with (first | (go_at_call 28; refine (endless_any _ _).mono ?_; rintro e w' ⟨rfl, rfl⟩; rw [Hs0.out, Hb1.out]) | (go_at_call 29; refine (refsum_any _ _ _ ps _ hrow6).mono ?_; rintro e w' ⟨s1, m1, rfl, hs1, rfl⟩))
          go_ret
          exact ⟨s1, rfl, by rw [hs1, Hs.out, Hps2.out], bw.drewN' _⟩
        · have hs : meanS (xs.map cn) = fdiv (sumS (xs.map cn)) (nfl k) := by
            unfold meanS
            rw [if_neg (by rw [Hlen.out]; intro h; rw [h] at hn; simp at hn), if_neg hb, Hlen.out]
          have Hs := Lib.hid hs
          clear hs
          cases hb1 : finf (sumS (xs.map cn)) <;> cases hb2 : anyInf (xs.map cn)
          case true.false => exact absurd ⟨hb1, hb2⟩ hb
          all_goals
            have Hb1 := Lib.hid hb1
            clear hb1 hb2 hb
            go_wp2_with (first | (refine wpList_fop _ _ _ _ _ _ _ rfl rfl rfl ?_; intro r nq hr9; have Hr9 := Lib.hid hr9; clear hr9) | (go_at_call 28; refine (endless_any _ _).mono ?_; rintro e w' ⟨rfl, rfl⟩; rw [Hs0.out, Hb1.out]))
            go_ret
            exact ⟨_, rfl, by rw [Hr9.out, Hs.out, Hs0.out, fop_quo, ← cn_nfl k]; rfl, bw.drewN' _⟩

end Go.Proofs.YtoeldcgclaiokaaGreat

namespace Go.Proofs.YtoeldcgclaiokaaGreat
open Go.Fl Go.Rel Go.RowKit

/-- The squares of the distances from m. -/
def sqs (m : Nat) (ys : List Nat) : List Nat := ys.map fun y => fmul (fsub y m) (fsub y m)
def varS (ys : List Nat) : Nat := if ys.length = 0 then nanc else fdiv (sumS (sqs (meanS ys) ys)) (nfl ys.length)

theorem sqs_len (m : Nat) (ys : List Nat) : (sqs m ys).length = ys.length := by simp [sqs]
theorem sqs_at (m : Nat) (ys : List Nat) {k : Nat} (h : k < ys.length) : at0 (sqs m ys) k = fmul (fsub (at0 ys k) m) (fsub (at0 ys k) m) := at0_map _ _ h

theorem sq_class {m x d r : Nat} {M : Nat} (hm : cn m = M) (hd : cn d = fop .sub (cn x) (cn m)) (hr : cn r = fop .mul (cn d) (cn d)) : cn r = fmul (fsub (cn x) M) (fsub (cn x) M) := by
  rw [hr, hd, hm]; rfl

theorem varS_eq {ys : List Nat} {n : Nat} (hl : ys.length = n) (hn : ((n : Int) == 0) = false) : varS ys = fdiv (sumS (sqs (meanS ys) ys)) (nfl n) := by
  unfold varS
  rw [if_neg (by rw [hl]; intro h; rw [h] at hn; simp at hn), hl]

def VarRel (ys : List Nat) (n B : Nat) (w : World) (i : Value) (wr : World) : Prop :=
  ∃ k s c, k ≤ n ∧ i = .int .i64 (k : Int) ∧ Bk.Is wr B #[.float .f64 s, .float .f64 c] 75 ∧ cn s = (totT ys k).1 ∧ cn c = (totT ys k).2 ∧ Below w.heap.size w wr

set_option maxHeartbeats 1000000 in
set_option maxRecDepth 100000 in
theorem var_any (a : Option Addr) (n cap : Nat) (xs : List Nat) (w : World) (hr : Row w a n xs) :
    Calls Tryz.prog 48 #[.slice a n cap] w (FB (varS (xs.map cn)) w) := by
  have hl := hr.1
  by_cases h0 : n = 0
  · subst h0
    have hs : varS (xs.map cn) = nanc := by unfold varS; rw [if_pos (by simp [hl])]
    rw [hs]
    go_enter Tryz.func48, Tryz.ntmps48
    go_wp2_with (go_at_call 56; refine (nan_any _).mono ?_; rintro e w' ⟨rfl, rfl⟩)
    go_ret
    exact ⟨nanc, rfl, cn_nanc, Below.refl _ _⟩
  · have hn : ((n : Int) == 0) = false := by simp; omega
    have hlen : (xs.map cn).length = n := by simp [hl]
    have hm := hr.2.1
    have Hlen := Lib.hid hlen
    have Hl := Lib.hid hl
    have Hv := Lib.hid (varS_eq hlen hn)
    clear hlen hl h0
    go_enter Tryz.func48, Tryz.ntmps48
    go_wp2_with (go_at_call 46; refine (mean_any _ _ _ xs _ hr).mono ?_; rintro e w1 ⟨m0, rfl, hm0, b1⟩)
    have Hm0 := Lib.hid hm0
    clear hm0
    obtain ⟨_, _, hc⟩ := hr
    go_loopw [16] (VarRel (sqs (meanS (xs.map cn)) (xs.map cn)) n w1.heap.size w) (fun i _ => n - (intOf i).toNat)
    case atStart => exact ⟨0, 0, 0, by omega, rfl, Bk.Is.made _ _ _, cn_zero, cn_zero, b1.alloc b1.size _⟩
    case round =>
      obtain ⟨k, s, c, hk, rfl, hbk, hs, hcc, bw⟩ := hrel
      have Hs := Lib.hid hs
      have Hc := Lib.hid hcc
      clear hs hcc
      by_cases hlt : k < n
      · obtain ⟨b, off, rfl, hcell⟩ := hc (by omega)
        have c0 := hcell k hlt
        have hblt : b < w.heap.size := World.block_lt_of_cell? w _ c0
        have ck : wr.cell? ⟨b, off + k, none⟩ = some (.float .f64 (at0 xs k)) := by rw [bw.cell (p := ⟨b, off + k, none⟩) hblt]; exact c0
        clear c0 hcell hc
        have hat : at0 (sqs (meanS (xs.map cn)) (xs.map cn)) k = fmul (fsub (cn (at0 xs k)) (meanS (xs.map cn))) (fsub (cn (at0 xs k)) (meanS (xs.map cn))) := by
          rw [sqs_at _ _ (by rw [Hlen.out]; exact hlt), at0_map _ _ (by rw [Hl.out]; exact hlt)]
        have Hat := Lib.hid hat
        clear hat
        go_wp2_with (first | (refine wpList_fop .sub _ _ _ _ _ _ rfl rfl rfl ?_; intro d nd hd; have Hd := Lib.hid hd; clear hd) | (refine wpList_fop .mul _ _ _ _ _ _ rfl rfl rfl ?_; intro q nq hq; have Hq := Lib.hid hq; clear hq))
        refine (add_any _ _ _ _ _ (hbk.drewN _)).mono ?_
        rintro e w2 ⟨rfl, s1, c1, m, rfl, h1, h2⟩
        have H1 := Lib.hid h1
        have H2 := Lib.hid h2
        clear h1 h2
        go_wp2_with fail
        go_roundw
        case rel =>
          have hT : totT (sqs (meanS (xs.map cn)) (xs.map cn)) (k + 1) = addT (cn s, cn c) (cn q) := by
            rw [totT, Hat.out, sq_class Hm0.out Hd.out Hq.out, show totT (sqs (meanS (xs.map cn)) (xs.map cn)) k = (cn s, cn c) from Prod.ext Hs.out.symm Hc.out.symm]
          have bw' := (((bw.drewN' (nd + nq)).setCell (p := ⟨w1.heap.size, 1, none⟩) b1.size (.float .f64 c1)).setCell (p := ⟨w1.heap.size, 0, none⟩) b1.size (.float .f64 s1)).drewN' m
          have hb' := (((hbk.drewN (nd + nq)).set 1 (.float .f64 c1)).set 0 (.float .f64 s1)).drewN m
          exact ⟨k + 1, s1, c1, by omega, by go_num, hb', by rw [H1.out, hT], by rw [H2.out, hT], bw'⟩
        case measure => simp [intOf]; omega
      · have Hk : Hid (k = (sqs (meanS (xs.map cn)) (xs.map cn)).length) := by show _ = _; rw [sqs_len, Hlen.out]; omega
        go_wp2_with (first | (refine wpList_fop _ _ _ _ _ _ _ rfl rfl rfl ?_; intro q nq hq; have Hq := Lib.hid hq; clear hq) | (go_at_call 69; refine (answer_any _ _ _ _ hbk).mono ?_; rintro e w2 ⟨r, m, rfl, h1, rfl⟩; have H1 := Lib.hid h1; clear h1))
        go_ret
        exact ⟨_, rfl, by rw [Hq.out, Hv.out, H1.out, Hs.out, Hc.out, sumS, Hk.out, fop_quo, ← cn_nfl n]; rfl, (bw.drewN' _).drewN' _⟩

def RVarRel (M : Nat) (ys : List Nat) (n B : Nat) (w : World) (vp i : Value) (wr : World) : Prop :=
  ∃ k ps, k ≤ n ∧ i = .int .i64 (k : Int) ∧ Own B wr vp ps ∧ ps.map cn = sqs M (ys.take k) ∧ Below w.heap.size w wr

theorem rvar_step {M : Nat} {ys ps : List Nat} {k x r : Nat} (h : ps.map cn = sqs M (ys.take k)) (hk : k < ys.length) (hx : at0 ys k = cn x) (hr : cn r = fmul (fsub (cn x) M) (fsub (cn x) M)) :
    (ps ++ [r]).map cn = sqs M (ys.take (k + 1)) := by
  rw [take_snoc ys k hk, List.map_append, h, hx]
  simp [sqs, hr]

set_option maxHeartbeats 1000000 in
set_option maxRecDepth 100000 in
theorem refvar_any (a : Option Addr) (n cap : Nat) (xs : List Nat) (w : World) (hr : Row w a n xs) (hreach : n < 17592186044416) :
    Calls Tryz.prog 32 #[.slice a n cap] w (FB (varS (xs.map cn)) w) := by
  have hl := hr.1
  by_cases h0 : n = 0
  · subst h0
    have hs : varS (xs.map cn) = nanc := by unfold varS; rw [if_pos (by simp [hl])]
    rw [hs]
    go_enter Tryz.func32, Tryz.ntmps32
    go_wp2_with (go_at_call 27; refine (refnan_any _).mono ?_; rintro e w' ⟨rfl, rfl⟩)
    go_ret
    exact ⟨nanc, rfl, cn_nanc, Below.refl _ _⟩
  · have hn : ((n : Int) == 0) = false := by simp; omega
    have hlen : (xs.map cn).length = n := by simp [hl]
    have hm := hr.2.1
    have Hlen := Lib.hid hlen
    have Hl := Lib.hid hl
    have Hreach := Lib.hid hreach
    have Hv := Lib.hid (varS_eq hlen hn)
    clear hlen hl h0
    go_enter Tryz.func32, Tryz.ntmps32
    go_wp2_with (go_at_call 30; refine (refmean_any _ _ _ xs _ hr hreach).mono ?_; rintro e w1 ⟨m0, rfl, hm0, b1⟩)
    clear hreach
    have Hm0 := Lib.hid hm0
    clear hm0
    obtain ⟨_, _, hc⟩ := hr
    go_loopw [4, 5] (RVarRel (meanS (xs.map cn)) (xs.map cn) n w.heap.size w) (fun _ i _ => n - (intOf i).toNat)
    case atStart => exact ⟨0, [], by omega, rfl, own_nil _ _, rfl, b1⟩
    case round =>
      obtain ⟨k, ps, hk, rfl, hown, hps, bw⟩ := hrel
      have Hps := Lib.hid hps
      clear hps
      by_cases hlt : k < n
      · obtain ⟨b, off, rfl, hcell⟩ := hc (by omega)
        have c0 := hcell k hlt
        have hblt : b < w.heap.size := World.block_lt_of_cell? w _ c0
        have ck : wr.cell? ⟨b, off + k, none⟩ = some (.float .f64 (at0 xs k)) := by rw [bw.cell (p := ⟨b, off + k, none⟩) hblt]; exact c0
        clear c0 hcell hc
        have Hat := Lib.hid (at0_map cn xs (i := k) (by rw [Hl.out]; exact hlt))
        have hpl : ps.length = k := by
          have := congrArg List.length Hps.out
          simp [sqs, Hl.out] at this
          omega
        have Hpl := Lib.hid hpl
        clear hpl
        go_wp2_with (first | (refine wpList_fop .sub _ _ _ _ _ _ rfl rfl rfl ?_; intro d nd hd; have Hd := Lib.hid hd; clear hd) | (refine wpList_fop .mul _ _ _ _ _ _ rfl rfl rfl ?_; intro q nq hq; have Hq := Lib.hid hq; clear hq)  | (at_builtin; refine wpList_append_f rfl _ _ rfl w.heap.size _ ps rfl (Own.alloc (Own.drewN hown _) _) ⟨wr.heap.size, 0, none⟩ 1 q rfl (by exact World.cell?_alloc_at _ _ _ _ rfl) (by rw [Hpl.out]; exact Nat.lt_trans hlt Hreach.out) (by have := bw.size; simp; omega) ?_; intro v' w2 hown1 hgrow1 _))
        have bw1 : Below w.heap.size w w2 := Own.below (Own.alloc (Own.drewN hown (nd + nq)) _) ((bw.drewN' (nd + nq)).alloc (by have := bw.size; simp; omega) _) hgrow1 (by have := bw.size; simp; omega)
        exact ⟨⟨k + 1, ps ++ [q], by omega, by go_num, hown1, rvar_step Hps.out (by rw [Hlen.out]; exact hlt) Hat.out (sq_class Hm0.out Hd.out Hq.out), bw1⟩, by simp [intOf]; omega⟩
      · have hk' : k = n := by omega
        subst hk'
        have hps : ps.map cn = sqs (meanS (xs.map cn)) (xs.map cn) := by rw [Hps.out, List.take_of_length_le (by rw [Hlen.out]; omega)]
        have Hps2 := Lib.hid hps
        clear hps Hps hc
        obtain ⟨a6, cap6, hv6, hrow6⟩ := hown.row
        subst hv6
        go_wp2_with (first | (refine wpList_fop _ _ _ _ _ _ _ rfl rfl rfl ?_; intro q nq hq; have Hq := Lib.hid hq; clear hq) | (go_at_call 29; refine (refsum_any _ _ _ ps _ hrow6).mono ?_; rintro e w' ⟨s1, m1, rfl, hs1, rfl⟩; have Hs1 := Lib.hid hs1; clear hs1))
        go_ret
        exact ⟨_, rfl, by rw [Hq.out, Hv.out, Hs1.out, Hps2.out, fop_quo, ← cn_nfl k]; rfl, (bw.drewN' _).drewN' _⟩

end Go.Proofs.YtoeldcgclaiokaaGreat

namespace Go.Proofs.YtoeldcgclaiokaaGreat
open Go.Fl Go.Rel Go.RowKit

theorem sqrt_ext (x : Nat) (w : World) : (callFunc 85 #[.float .f64 x]).run Tryz.prog w = ((Extern.MathSqrt.sqrt #[.float .f64 x]).run Tryz.prog w).andThen fun v w' => .ok (.value v) w' :=
  run_callFunc_extern Tryz.func85 (by kernel_rfl) rfl (by kernel_rfl) (by kernel_rfl) _ w

theorem sqrt_def (x : Nat) : Extern.MathSqrt.sqrt #[.float .f64 x] = (match FloatKind.f64.format.sqrt x with
    | some r => pure (.float .f64 r)
    | none => do pure (.float .f64 (← choose (.nanBits .f64 x x)))) := rfl

theorem fsqrt_cn (x : Nat) : fsqrt (cn x) = fsqrt x := by
  cases h : isN x
  · rw [cn_of_notN h]
  · rw [cn_of_N h]
    obtain ⟨s, t, hr⟩ := read_nan h
    obtain ⟨s2, t2, hr2⟩ := read_nan isN_nanc
    unfold fsqrt Ieee.Format.sqrt
    rw [hr, hr2]; rfl

theorem sqrt_run (x : Nat) (w : World) : ∃ r n, (callFunc 85 #[.float .f64 x]).run Tryz.prog w = .ok (.value (.float .f64 r)) (w.drewN n) ∧ cn r = fsqrt (cn x) := by
  rw [sqrt_ext, fsqrt_cn, sqrt_def]
  cases h : Ieee.double.sqrt x with
  | some r =>
    refine ⟨r, 0, ?_, ?_⟩
    · have h2 : FloatKind.f64.format.sqrt x = some r := h
      simp [h2, Result.andThen, World.drewN]
    · unfold fsqrt; rw [h]
      exact cn_of_notN (map_write_notN (fun _ hx => root_notN hx) h)
  | none =>
    refine ⟨Question.cut (.nanBits .f64 x x) (w.tape w.drawn (.nanBits .f64 x x)), 1, ?_, ?_⟩
    · have hq : Question.forced (.nanBits .f64 x x) = false := rfl
      have h2 : FloatKind.f64.format.sqrt x = none := h
      simp [h2, choose, Sem.run, Result.andThen, Question.forced, World.drewN]
    · rw [cn_of_N (cut_isN x x _)]; unfold fsqrt; rw [h]; rfl

theorem sqrt_any (x : Nat) (w : World) : Calls Tryz.prog 59 #[.float .f64 x] w (FRet (fsqrt (cn x)) w) := by
  obtain ⟨r, n, hr, hc⟩ := sqrt_run x w
  have Hc := Lib.hid hc
  clear hc
  go_enter Tryz.func59, Tryz.ntmps59
  go_wp2_with (simp only [hr])
  go_ret
  exact ⟨r, n, rfl, Hc.out, rfl⟩

theorem spread_any (a : Option Addr) (n cap : Nat) (xs : List Nat) (w : World) (hr : Row w a n xs) :
    Calls Tryz.prog 47 #[.slice a n cap] w (FB (fsqrt (varS (xs.map cn))) w) := by
  go_enter Tryz.func47, Tryz.ntmps47
  go_wp2_with (first | (go_at_call 48; refine (var_any _ _ _ xs _ hr).mono ?_; rintro e w1 ⟨v, rfl, hv, b1⟩; have Hv := Lib.hid hv; clear hv) | (go_at_call 59; refine (sqrt_any _ _).mono ?_; rintro e w1 ⟨r, m, rfl, h1, rfl⟩; have H1 := Lib.hid h1; clear h1))
  go_ret
  exact ⟨_, rfl, by rw [H1.out, Hv.out], b1.drewN' _⟩

theorem refspread_any (a : Option Addr) (n cap : Nat) (xs : List Nat) (w : World) (hr : Row w a n xs) (hreach : n < 17592186044416) :
    Calls Tryz.prog 31 #[.slice a n cap] w (FB (fsqrt (varS (xs.map cn))) w) := by
  go_enter Tryz.func31, Tryz.ntmps31
  go_wp2_with (first | (go_at_call 32; refine (refvar_any _ _ _ xs _ hr hreach).mono ?_; rintro e w1 ⟨v, rfl, hv, b1⟩; have Hv := Lib.hid hv; clear hv) | (go_at_call 59; refine (sqrt_any _ _).mono ?_; rintro e w1 ⟨r, m, rfl, h1, rfl⟩; have H1 := Lib.hid h1; clear h1))
  go_ret
  exact ⟨_, rfl, by rw [H1.out, Hv.out], b1.drewN' _⟩

end Go.Proofs.YtoeldcgclaiokaaGreat
