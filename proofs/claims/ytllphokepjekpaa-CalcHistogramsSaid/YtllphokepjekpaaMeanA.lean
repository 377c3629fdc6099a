/- calc.Mean: what it answers. -/
import Derived.Test.YtllphokepjekpaaMean
namespace Go.Proofs.Ytllphokepjekpaa
open Go.Fl Go.Rel Go.RowKit

/-- A whole number as a float. -/
def nfl (n : Nat) : Nat := floatOfInt .f64 (n : Int)
theorem cn_nfl (n : Nat) : cn (nfl n) = nfl n := cn_of_notN (show isN (Ieee.double.write (.number ((n : Int) < 0) ((n : Int)).natAbs 0)) = false from write_not_nan _ rfl)

def meanS (ys : List Nat) : Nat :=
  if ys.length = 0 then nanc else
  if finf (sumS ys) = true ∧ anyInf ys = false then sumS (ys.map fun y => fdiv y (nfl ys.length)) else fdiv (sumS ys) (nfl ys.length)

def MeanRel (ys : List Nat) (n B : Nat) (w : World) (i : Value) (wr : World) : Prop :=
  ∃ k s c, k ≤ n ∧ i = .int .i64 (k : Int) ∧ Bk.Is wr B #[.float .f64 s, .float .f64 c] 61 ∧ cn s = (totT ys k).1 ∧ cn c = (totT ys k).2 ∧ Below w.heap.size w wr

theorem fdiv_cn1 (x y : Nat) : fdiv (cn x) (cn y) = fdiv x y := fop_cn .quo x y

set_option maxHeartbeats 1000000 in
set_option maxRecDepth 100000 in
theorem mean_any (a : Option Addr) (n cap : Nat) (xs : List Nat) (w : World) (hr : Row w a n xs) :
    Calls Try.prog 19 #[.slice a n cap] w (FB (meanS (xs.map cn)) w) := by
  have hl := hr.1
  by_cases h0 : n = 0
  · subst h0
    have hs : meanS (xs.map cn) = nanc := by unfold meanS; rw [if_pos (by simp [hl])]
    rw [hs]
    go_enter Try.func19, Try.ntmps19
    go_wp2_with (go_at_call 52; refine (nan_any _).mono ?_; rintro e w' ⟨rfl, rfl⟩)
    go_ret
    exact ⟨nanc, rfl, cn_nanc, Below.refl _ _⟩
  · have hn : ((n : Int) == 0) = false := by simp; omega
    have hlen : (xs.map cn).length = n := by simp [hl]
    have hm := hr.2.1
    have Hlen := Lib.hid hlen
    have Hl := Lib.hid hl
    clear hlen hl h0
    by_cases hb : finf (sumS (xs.map cn)) = true ∧ anyInf (xs.map cn) = false
    · have hs : meanS (xs.map cn) = sumS ((xs.map cn).map fun y => fdiv y (nfl n)) := by
        unfold meanS
        rw [if_neg (by rw [Hlen.out]; intro h; rw [h] at hn; simp at hn), if_pos hb, Hlen.out]
      rw [hs]
      obtain ⟨hb1, hb2⟩ := hb
      have Hb1 := Lib.hid hb1
      have Hb2 := Lib.hid hb2
      clear hb1 hb2 hs
      go_enter Try.func19, Try.ntmps19
      go_wp2_with fail
      refine (sum_any _ _ _ xs _ hr).mono ?_
      rintro e w1 ⟨s0, rfl, hs0, b1⟩
      have Hs0 := Lib.hid hs0
      clear hs0
      have hr1 := hr.below b1
      go_wp2_with (first | (go_at_call 57; refine (infinite_any _ _).mono ?_; rintro e w' ⟨rfl, rfl⟩; rw [Hs0.out, Hb1.out]) | (go_at_call 58; refine (contains_inf _ _ _ xs _ hr1).mono ?_; rintro e w' ⟨rfl, rfl⟩; rw [Hb2.out]))
      obtain ⟨_, _, hc⟩ := hr
      go_loopw [29] (MeanRel ((xs.map cn).map fun y => fdiv y (nfl n)) n w1.heap.size w) (fun i _ => n - (intOf i).toNat)
      case atStart => exact ⟨0, 0, 0, by omega, rfl, Bk.Is.made _ _ _, cn_zero, cn_zero, b1.alloc b1.size _⟩
      case round =>
        obtain ⟨k, s, c, hk, rfl, hbk, hs, hcc, bw⟩ := hrel
        have Hs := Lib.hid hs
        have Hc := Lib.hid hcc
        clear hs hcc
        by_cases hlt : k < n
        · obtain ⟨b, off, rfl, hcell⟩ := hc (by omega)
          have c0 := hcell k hlt
          have hblt : b < w.heap.size := World.block_lt_of_cell? w _ c0
          have ck : wr.cell? ⟨b, off + k, none⟩ = some (.float .f64 (at0 xs k)) := by rw [bw.cell (p := ⟨b, off + k, none⟩) hblt]; exact c0
          clear c0 hcell hc hr1
          have hat : at0 ((xs.map cn).map fun y => fdiv y (nfl n)) k = fdiv (cn (at0 xs k)) (nfl n) := by
            rw [at0_map _ _ (by rw [Hlen.out]; exact hlt), at0_map _ _ (by rw [Hl.out]; exact hlt)]
          have Hat := Lib.hid hat
          clear hat
          go_wp2_with (refine wpList_fop _ _ _ _ _ _ _ rfl rfl rfl ?_; intro r nq hr9)
          have Hr := Lib.hid hr9
          clear hr9
          refine (add_any _ _ _ _ _ (hbk.drewN _)).mono ?_
          rintro e w2 ⟨rfl, s1, c1, m, rfl, h1, h2⟩
          have H1 := Lib.hid h1
          have H2 := Lib.hid h2
          clear h1 h2
          go_wp2_with fail
          go_roundw
          case rel =>
            have hT : totT ((xs.map cn).map fun y => fdiv y (nfl n)) (k + 1) = addT (cn s, cn c) (cn r) := by
              rw [totT, Hat.out, Hr.out, show totT ((xs.map cn).map fun y => fdiv y (nfl n)) k = (cn s, cn c) from Prod.ext Hs.out.symm Hc.out.symm, fop_quo, ← cn_nfl n]
              rfl
            have bw' := (((bw.drewN' nq).setCell (p := ⟨w1.heap.size, 1, none⟩) b1.size (.float .f64 c1)).setCell (p := ⟨w1.heap.size, 0, none⟩) b1.size (.float .f64 s1)).drewN' m
            have hb' := (((hbk.drewN nq).set 1 (.float .f64 c1)).set 0 (.float .f64 s1)).drewN m
            exact ⟨k + 1, s1, c1, by omega, by go_num, hb', by rw [H1.out, hT], by rw [H2.out, hT], bw'⟩
          case measure => simp [intOf]; omega
        · have Hk : Hid (k = ((xs.map cn).map fun y => fdiv y (nfl n)).length) := by show _ = _; rw [List.length_map, Hlen.out]; omega
          go_wp2_with fail
          refine (answer_any _ _ _ _ hbk).mono ?_
          rintro e w2 ⟨r, m, rfl, h1, rfl⟩
          have H1 := Lib.hid h1
          clear h1
          go_wp2_with fail
          go_ret
          exact ⟨r, rfl, by rw [H1.out, Hs.out, Hc.out, sumS, Hk.out], bw.drewN' _⟩
    · have hs : meanS (xs.map cn) = fdiv (sumS (xs.map cn)) (nfl n) := by
        unfold meanS
        rw [if_neg (by rw [Hlen.out]; intro h; rw [h] at hn; simp at hn), if_neg hb, Hlen.out]
      rw [hs]
      clear hs
      cases hb1 : finf (sumS (xs.map cn))
      all_goals
        have Hb1 := Lib.hid hb1
        have hb2 : finf (sumS (xs.map cn)) = true → anyInf (xs.map cn) = true := fun h => by
          cases h' : anyInf (xs.map cn)
          · exact absurd ⟨h, h'⟩ hb
          · rfl
        have Hb2 := Lib.hid hb2
        clear hb1 hb2 hb
        go_enter Try.func19, Try.ntmps19
        go_wp2_with fail
        refine (sum_any _ _ _ xs _ hr).mono ?_
        rintro e w1 ⟨s0, rfl, hs0, b1⟩
        have Hs0 := Lib.hid hs0
        clear hs0
        have hr1 := hr.below b1
        go_wp2_with (first | (refine wpList_fop _ _ _ _ _ _ _ rfl rfl rfl ?_; intro r nq hr9) | (go_at_call 57; refine (infinite_any _ _).mono ?_; rintro e w' ⟨rfl, rfl⟩; rw [Hs0.out, Hb1.out]) | (go_at_call 58; refine (contains_inf _ _ _ xs _ hr1).mono ?_; rintro e w' ⟨rfl, rfl⟩; rw [Hb2.out Hb1.out]))
        go_ret
        exact ⟨_, rfl, by rw [hr9, Hs0.out, fop_quo, ← cn_nfl n]; rfl, b1.drewN' _⟩

end Go.Proofs.Ytllphokepjekpaa
