/- weirref06.Mean: what it answers. -/
import Derived.Test.YtllphokepjekpaaMeanA
import Derived.Test.YtllphokepjekpaaGrow
namespace Go.Proofs.Ytllphokepjekpaa
open Go.Fl Go.Rel Go.RowKit

theorem take_snoc (ys : List Nat) (k : Nat) (h : k < ys.length) : ys.take (k + 1) = ys.take k ++ [at0 ys k] := by
  rw [List.take_add_one, List.getElem?_eq_getElem h]; simp [at0, List.getD, h]

theorem anyInf_snoc (ys : List Nat) (k : Nat) (h : k < ys.length) : anyInf (ys.take (k + 1)) = (anyInf (ys.take k) || finf (at0 ys k)) := by
  rw [take_snoc ys k h]; simp [anyInf, List.any_append]

def RMeanRel (ys : List Nat) (n B : Nat) (w : World) (vf vp i : Value) (wr : World) : Prop :=
  ∃ k ps, k ≤ n ∧ vf = .bool (!anyInf (ys.take k)) ∧ i = .int .i64 (k : Int) ∧ Own B wr vp ps ∧ ps.map cn = (ys.take k).map (fun y => fdiv y (nfl n)) ∧ Below B w wr

theorem rmean_step {ys ps : List Nat} {n k x r : Nat} (h : ps.map cn = (ys.take k).map (fun y => fdiv y (nfl n))) (hk : k < ys.length) (hx : at0 ys k = cn x) (hr : cn r = fop .quo (cn x) (cn (nfl n))) :
    (ps ++ [r]).map cn = (ys.take (k + 1)).map (fun y => fdiv y (nfl n)) := by
  rw [take_snoc ys k hk, List.map_append, List.map_append, h, hx]
  simp only [List.map_cons, List.map_nil]
  rw [hr, fop_quo, cn_nfl]

set_option maxHeartbeats 1000000 in
set_option maxRecDepth 100000 in
theorem refmean_any (a : Option Addr) (n cap : Nat) (xs : List Nat) (w : World) (hr : Row w a n xs) (hreach : n < 17592186044416) :
    Calls Try.prog 21 #[.slice a n cap] w (FB (meanS (xs.map cn)) w) := by
  have hl := hr.1
  by_cases h0 : n = 0
  · subst h0
    have hs : meanS (xs.map cn) = nanc := by unfold meanS; rw [if_pos (by simp [hl])]
    rw [hs]
    go_enter Try.func21, Try.ntmps21
    go_wp2_with (go_at_call 53; refine (refnan_any _).mono ?_; rintro e w' ⟨rfl, rfl⟩)
    go_ret
    exact ⟨nanc, rfl, cn_nanc, Below.refl _ _⟩
  · have hn : ((n : Int) == 0) = false := by simp; omega
    have hlen : (xs.map cn).length = n := by simp [hl]
    have hm := hr.2.1
    have Hlen := Lib.hid hlen
    have Hl := Lib.hid hl
    have Hreach := Lib.hid hreach
    clear hlen hl h0 hreach
    go_enter Try.func21, Try.ntmps21
    go_wp2_with (go_at_call 20; refine (refsum_any _ _ _ xs _ hr).mono ?_; rintro e w' ⟨s0, m0, rfl, hs0, rfl⟩)
    have Hs0 := Lib.hid hs0
    clear hs0
    obtain ⟨_, _, hc⟩ := hr
    go_loopw [5, 6, 7] (RMeanRel (xs.map cn) n w.heap.size w) (fun _ _ i _ => n - (intOf i).toNat)
    case atStart => exact ⟨0, [], by omega, rfl, rfl, own_nil _ _, rfl, (Below.refl _ _).drewN' _⟩
    case round =>
      obtain ⟨k, ps, hk, rfl, rfl, hown, hps, bw⟩ := hrel
      have Hps := Lib.hid hps
      clear hps
      by_cases hlt : k < n
      · obtain ⟨b, off, rfl, hcell⟩ := hc (by omega)
        have c0 := hcell k hlt
        have hblt : b < w.heap.size := World.block_lt_of_cell? w _ c0
        have ck : wr.cell? ⟨b, off + k, none⟩ = some (.float .f64 (at0 xs k)) := by rw [bw.cell (p := ⟨b, off + k, none⟩) hblt]; exact c0
        clear c0 hcell hc
        have Hat := Lib.hid (at0_map cn xs (i := k) (by rw [Hl.out]; exact hlt))
        have Hany := Lib.hid (anyInf_snoc (xs.map cn) k (by rw [Hlen.out]; exact hlt))
        have hpl : ps.length = k := by
          have := congrArg List.length Hps.out
          simp [Hl.out] at this
          omega
        have Hpl := Lib.hid hpl
        clear hpl
        cases hf : anyInf ((xs.map cn).take k)
        all_goals
          have Hf := Lib.hid hf
          clear hf
          go_wp2_with (first | (refine wpList_fop _ _ _ _ _ _ _ rfl rfl rfl ?_; intro r nq hr9; have Hr9 := Lib.hid hr9; clear hr9)  | (go_at_call 59; refine (endless_any _ _).mono ?_; rintro e w' ⟨rfl, rfl⟩)  | (at_builtin; refine wpList_append_f rfl _ _ rfl w.heap.size _ ps rfl (Own.alloc (Own.drewN hown _) _) ⟨wr.heap.size, 0, none⟩ 1 r rfl (by exact World.cell?_alloc_at _ _ _ _ rfl) (by rw [Hpl.out]; exact Nat.lt_trans hlt Hreach.out) (by have := bw.size; simp; omega) ?_; intro v' w1 hown1 hgrow1 _))
          have bw1 : Below w.heap.size w w1 := Own.below (Own.alloc (Own.drewN hown nq) _) ((bw.drewN' nq).alloc (by have := bw.size; simp; omega) _) hgrow1 (by have := bw.size; simp; omega)
          refine ⟨⟨k + 1, ps ++ [r], by omega, ?_, by go_num, hown1, rmean_step Hps.out (by rw [Hlen.out]; exact hlt) Hat.out Hr9.out, bw1⟩, by simp [intOf]; omega⟩
          rw [Hany.out, Hf.out, Hat.out]; rfl
      · have hk' : k = n := by omega
        subst hk'
        have hfull : (xs.map cn).take k = xs.map cn := List.take_of_length_le (by rw [Hlen.out]; omega)
        rw [hfull]
        have hps : ps.map cn = (xs.map cn).map (fun y => fdiv y (nfl k)) := by rw [Hps.out, hfull]
        have Hps2 := Lib.hid hps
        clear hps hfull Hps hc
        obtain ⟨a6, cap6, hv6, hrow6⟩ := hown.row
        subst hv6
        by_cases hb : finf (sumS (xs.map cn)) = true ∧ anyInf (xs.map cn) = false
        · have hs : meanS (xs.map cn) = sumS ((xs.map cn).map fun y => fdiv y (nfl k)) := by
            unfold meanS
            rw [if_neg (by rw [Hlen.out]; intro h; rw [h] at hn; simp at hn), if_pos hb, Hlen.out]
          have Hs := Lib.hid hs
          obtain ⟨hb1, hb2⟩ := hb
          rw [hb2]
          have Hb1 := Lib.hid hb1
          clear hb1 hb2 hs
          go_wp2_with (first | (go_at_call 59; refine (endless_any _ _).mono ?_; rintro e w' ⟨rfl, rfl⟩; rw [Hs0.out, Hb1.out]) | (go_at_call 20; refine (refsum_any _ _ _ ps _ hrow6).mono ?_; rintro e w' ⟨s1, m1, rfl, hs1, rfl⟩))
          go_ret
          exact ⟨s1, rfl, by rw [hs1, Hs.out, Hps2.out], bw.drewN' _⟩
        · have hs : meanS (xs.map cn) = fdiv (sumS (xs.map cn)) (nfl k) := by
            unfold meanS
            rw [if_neg (by rw [Hlen.out]; intro h; rw [h] at hn; simp at hn), if_neg hb, Hlen.out]
          have Hs := Lib.hid hs
          clear hs
          cases hb1 : finf (sumS (xs.map cn)) <;> cases hb2 : anyInf (xs.map cn)
          case true.false => exact absurd ⟨hb1, hb2⟩ hb
          all_goals
            have Hb1 := Lib.hid hb1
            clear hb1 hb2 hb
            go_wp2_with (first | (refine wpList_fop _ _ _ _ _ _ _ rfl rfl rfl ?_; intro r nq hr9; have Hr9 := Lib.hid hr9; clear hr9) | (go_at_call 59; refine (endless_any _ _).mono ?_; rintro e w' ⟨rfl, rfl⟩; rw [Hs0.out, Hb1.out]))
            go_ret
            exact ⟨_, rfl, by rw [Hr9.out, Hs.out, Hs0.out, fop_quo, ← cn_nfl k]; rfl, bw.drewN' _⟩

end Go.Proofs.Ytllphokepjekpaa
