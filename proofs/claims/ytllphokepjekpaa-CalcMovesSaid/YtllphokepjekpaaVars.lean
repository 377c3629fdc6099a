/- Variance on both sides. -/
import Derived.Test.YtllphokepjekpaaMeanR
namespace Go.Proofs.Ytllphokepjekpaa
open Go.Fl Go.Rel Go.RowKit

/-- The squares of the distances from m. -/
def sqs (m : Nat) (ys : List Nat) : List Nat := ys.map fun y => fmul (fsub y m) (fsub y m)
def varS (ys : List Nat) : Nat := if ys.length = 0 then nanc else fdiv (sumS (sqs (meanS ys) ys)) (nfl ys.length)

theorem sqs_len (m : Nat) (ys : List Nat) : (sqs m ys).length = ys.length := by simp [sqs]
theorem sqs_at (m : Nat) (ys : List Nat) {k : Nat} (h : k < ys.length) : at0 (sqs m ys) k = fmul (fsub (at0 ys k) m) (fsub (at0 ys k) m) := at0_map _ _ h

theorem sq_class {m x d r : Nat} {M : Nat} (hm : cn m = M) (hd : cn d = fop .sub (cn x) (cn m)) (hr : cn r = fop .mul (cn d) (cn d)) : cn r = fmul (fsub (cn x) M) (fsub (cn x) M) := by
  rw [hr, hd, hm]; rfl

theorem varS_eq {ys : List Nat} {n : Nat} (hl : ys.length = n) (hn : ((n : Int) == 0) = false) : varS ys = fdiv (sumS (sqs (meanS ys) ys)) (nfl n) := by
  unfold varS
  rw [if_neg (by rw [hl]; intro h; rw [h] at hn; simp at hn), hl]

def VarRel (ys : List Nat) (n B : Nat) (w : World) (i : Value) (wr : World) : Prop :=
  ∃ k s c, k ≤ n ∧ i = .int .i64 (k : Int) ∧ Bk.Is wr B #[.float .f64 s, .float .f64 c] 61 ∧ cn s = (totT ys k).1 ∧ cn c = (totT ys k).2 ∧ Below w.heap.size w wr

set_option maxHeartbeats 1000000 in
set_option maxRecDepth 100000 in
theorem var_any (a : Option Addr) (n cap : Nat) (xs : List Nat) (w : World) (hr : Row w a n xs) :
    Calls Try.prog 24 #[.slice a n cap] w (FB (varS (xs.map cn)) w) := by
  have hl := hr.1
  by_cases h0 : n = 0
  · subst h0
    have hs : varS (xs.map cn) = nanc := by unfold varS; rw [if_pos (by simp [hl])]
    rw [hs]
    go_enter Try.func24, Try.ntmps24
    go_wp2_with (go_at_call 52; refine (nan_any _).mono ?_; rintro e w' ⟨rfl, rfl⟩)
    go_ret
    exact ⟨nanc, rfl, cn_nanc, Below.refl _ _⟩
  · have hn : ((n : Int) == 0) = false := by simp; omega
    have hlen : (xs.map cn).length = n := by simp [hl]
    have hm := hr.2.1
    have Hlen := Lib.hid hlen
    have Hl := Lib.hid hl
    have Hv := Lib.hid (varS_eq hlen hn)
    clear hlen hl h0
    go_enter Try.func24, Try.ntmps24
    go_wp2_with (go_at_call 19; refine (mean_any _ _ _ xs _ hr).mono ?_; rintro e w1 ⟨m0, rfl, hm0, b1⟩)
    have Hm0 := Lib.hid hm0
    clear hm0
    obtain ⟨_, _, hc⟩ := hr
    go_loopw [16] (VarRel (sqs (meanS (xs.map cn)) (xs.map cn)) n w1.heap.size w) (fun i _ => n - (intOf i).toNat)
    case atStart => exact ⟨0, 0, 0, by omega, rfl, Bk.Is.made _ _ _, cn_zero, cn_zero, b1.alloc b1.size _⟩
    case round =>
      obtain ⟨k, s, c, hk, rfl, hbk, hs, hcc, bw⟩ := hrel
      have Hs := Lib.hid hs
      have Hc := Lib.hid hcc
      clear hs hcc
      by_cases hlt : k < n
      · obtain ⟨b, off, rfl, hcell⟩ := hc (by omega)
        have c0 := hcell k hlt
        have hblt : b < w.heap.size := World.block_lt_of_cell? w _ c0
        have ck : wr.cell? ⟨b, off + k, none⟩ = some (.float .f64 (at0 xs k)) := by rw [bw.cell (p := ⟨b, off + k, none⟩) hblt]; exact c0
        clear c0 hcell hc
        have hat : at0 (sqs (meanS (xs.map cn)) (xs.map cn)) k = fmul (fsub (cn (at0 xs k)) (meanS (xs.map cn))) (fsub (cn (at0 xs k)) (meanS (xs.map cn))) := by
          rw [sqs_at _ _ (by rw [Hlen.out]; exact hlt), at0_map _ _ (by rw [Hl.out]; exact hlt)]
        have Hat := Lib.hid hat
        clear hat
        go_wp2_with (first | (refine wpList_fop .sub _ _ _ _ _ _ rfl rfl rfl ?_; intro d nd hd; have Hd := Lib.hid hd; clear hd) | (refine wpList_fop .mul _ _ _ _ _ _ rfl rfl rfl ?_; intro q nq hq; have Hq := Lib.hid hq; clear hq))
        refine (add_any _ _ _ _ _ (hbk.drewN _)).mono ?_
        rintro e w2 ⟨rfl, s1, c1, m, rfl, h1, h2⟩
        have H1 := Lib.hid h1
        have H2 := Lib.hid h2
        clear h1 h2
        go_wp2_with fail
        go_roundw
        case rel =>
          have hT : totT (sqs (meanS (xs.map cn)) (xs.map cn)) (k + 1) = addT (cn s, cn c) (cn q) := by
            rw [totT, Hat.out, sq_class Hm0.out Hd.out Hq.out, show totT (sqs (meanS (xs.map cn)) (xs.map cn)) k = (cn s, cn c) from Prod.ext Hs.out.symm Hc.out.symm]
          have bw' := (((bw.drewN' (nd + nq)).setCell (p := ⟨w1.heap.size, 1, none⟩) b1.size (.float .f64 c1)).setCell (p := ⟨w1.heap.size, 0, none⟩) b1.size (.float .f64 s1)).drewN' m
          have hb' := (((hbk.drewN (nd + nq)).set 1 (.float .f64 c1)).set 0 (.float .f64 s1)).drewN m
          exact ⟨k + 1, s1, c1, by omega, by go_num, hb', by rw [H1.out, hT], by rw [H2.out, hT], bw'⟩
        case measure => simp [intOf]; omega
      · have Hk : Hid (k = (sqs (meanS (xs.map cn)) (xs.map cn)).length) := by show _ = _; rw [sqs_len, Hlen.out]; omega
        go_wp2_with (first | (refine wpList_fop _ _ _ _ _ _ _ rfl rfl rfl ?_; intro q nq hq; have Hq := Lib.hid hq; clear hq) | (go_at_call 56; refine (answer_any _ _ _ _ hbk).mono ?_; rintro e w2 ⟨r, m, rfl, h1, rfl⟩; have H1 := Lib.hid h1; clear h1))
        go_ret
        exact ⟨_, rfl, by rw [Hq.out, Hv.out, H1.out, Hs.out, Hc.out, sumS, Hk.out, fop_quo, ← cn_nfl n]; rfl, (bw.drewN' _).drewN' _⟩

def RVarRel (M : Nat) (ys : List Nat) (n B : Nat) (w : World) (vp i : Value) (wr : World) : Prop :=
  ∃ k ps, k ≤ n ∧ i = .int .i64 (k : Int) ∧ Own B wr vp ps ∧ ps.map cn = sqs M (ys.take k) ∧ Below w.heap.size w wr

theorem rvar_step {M : Nat} {ys ps : List Nat} {k x r : Nat} (h : ps.map cn = sqs M (ys.take k)) (hk : k < ys.length) (hx : at0 ys k = cn x) (hr : cn r = fmul (fsub (cn x) M) (fsub (cn x) M)) :
    (ps ++ [r]).map cn = sqs M (ys.take (k + 1)) := by
  rw [take_snoc ys k hk, List.map_append, h, hx]
  simp [sqs, hr]

set_option maxHeartbeats 1000000 in
set_option maxRecDepth 100000 in
theorem refvar_any (a : Option Addr) (n cap : Nat) (xs : List Nat) (w : World) (hr : Row w a n xs) (hreach : n < 17592186044416) :
    Calls Try.prog 22 #[.slice a n cap] w (FB (varS (xs.map cn)) w) := by
  have hl := hr.1
  by_cases h0 : n = 0
  · subst h0
    have hs : varS (xs.map cn) = nanc := by unfold varS; rw [if_pos (by simp [hl])]
    rw [hs]
    go_enter Try.func22, Try.ntmps22
    go_wp2_with (go_at_call 53; refine (refnan_any _).mono ?_; rintro e w' ⟨rfl, rfl⟩)
    go_ret
    exact ⟨nanc, rfl, cn_nanc, Below.refl _ _⟩
  · have hn : ((n : Int) == 0) = false := by simp; omega
    have hlen : (xs.map cn).length = n := by simp [hl]
    have hm := hr.2.1
    have Hlen := Lib.hid hlen
    have Hl := Lib.hid hl
    have Hreach := Lib.hid hreach
    have Hv := Lib.hid (varS_eq hlen hn)
    clear hlen hl h0
    go_enter Try.func22, Try.ntmps22
    go_wp2_with (go_at_call 21; refine (refmean_any _ _ _ xs _ hr hreach).mono ?_; rintro e w1 ⟨m0, rfl, hm0, b1⟩)
    clear hreach
    have Hm0 := Lib.hid hm0
    clear hm0
    obtain ⟨_, _, hc⟩ := hr
    go_loopw [4, 5] (RVarRel (meanS (xs.map cn)) (xs.map cn) n w.heap.size w) (fun _ i _ => n - (intOf i).toNat)
    case atStart => exact ⟨0, [], by omega, rfl, own_nil _ _, rfl, b1⟩
    case round =>
      obtain ⟨k, ps, hk, rfl, hown, hps, bw⟩ := hrel
      have Hps := Lib.hid hps
      clear hps
      by_cases hlt : k < n
      · obtain ⟨b, off, rfl, hcell⟩ := hc (by omega)
        have c0 := hcell k hlt
        have hblt : b < w.heap.size := World.block_lt_of_cell? w _ c0
        have ck : wr.cell? ⟨b, off + k, none⟩ = some (.float .f64 (at0 xs k)) := by rw [bw.cell (p := ⟨b, off + k, none⟩) hblt]; exact c0
        clear c0 hcell hc
        have Hat := Lib.hid (at0_map cn xs (i := k) (by rw [Hl.out]; exact hlt))
        have hpl : ps.length = k := by
          have := congrArg List.length Hps.out
          simp [sqs, Hl.out] at this
          omega
        have Hpl := Lib.hid hpl
        clear hpl
        go_wp2_with (first | (refine wpList_fop .sub _ _ _ _ _ _ rfl rfl rfl ?_; intro d nd hd; have Hd := Lib.hid hd; clear hd) | (refine wpList_fop .mul _ _ _ _ _ _ rfl rfl rfl ?_; intro q nq hq; have Hq := Lib.hid hq; clear hq)  | (at_builtin; refine wpList_append_f rfl _ _ rfl w.heap.size _ ps rfl (Own.alloc (Own.drewN hown _) _) ⟨wr.heap.size, 0, none⟩ 1 q rfl (by exact World.cell?_alloc_at _ _ _ _ rfl) (by rw [Hpl.out]; exact Nat.lt_trans hlt Hreach.out) (by have := bw.size; simp; omega) ?_; intro v' w2 hown1 hgrow1 _))
        have bw1 : Below w.heap.size w w2 := Own.below (Own.alloc (Own.drewN hown (nd + nq)) _) ((bw.drewN' (nd + nq)).alloc (by have := bw.size; simp; omega) _) hgrow1 (by have := bw.size; simp; omega)
        exact ⟨⟨k + 1, ps ++ [q], by omega, by go_num, hown1, rvar_step Hps.out (by rw [Hlen.out]; exact hlt) Hat.out (sq_class Hm0.out Hd.out Hq.out), bw1⟩, by simp [intOf]; omega⟩
      · have hk' : k = n := by omega
        subst hk'
        have hps : ps.map cn = sqs (meanS (xs.map cn)) (xs.map cn) := by rw [Hps.out, List.take_of_length_le (by rw [Hlen.out]; omega)]
        have Hps2 := Lib.hid hps
        clear hps Hps hc
        obtain ⟨a6, cap6, hv6, hrow6⟩ := hown.row
        subst hv6
        go_wp2_with (first | (refine wpList_fop _ _ _ _ _ _ _ rfl rfl rfl ?_; intro q nq hq; have Hq := Lib.hid hq; clear hq) | (go_at_call 20; refine (refsum_any _ _ _ ps _ hrow6).mono ?_; rintro e w' ⟨s1, m1, rfl, hs1, rfl⟩; have Hs1 := Lib.hid hs1; clear hs1))
        go_ret
        exact ⟨_, rfl, by rw [Hq.out, Hv.out, Hs1.out, Hps2.out, fop_quo, ← cn_nfl k]; rfl, (bw.drewN' _).drewN' _⟩

end Go.Proofs.Ytllphokepjekpaa
